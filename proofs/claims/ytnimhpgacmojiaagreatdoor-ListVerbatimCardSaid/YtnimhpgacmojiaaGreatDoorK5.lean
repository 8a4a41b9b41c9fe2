/-
  The texts of this proof, joined: abstract values, the library, the functions of the program and what they compute (part 5). No condition.
-/
import Derived.Test.YtnimhpgacmojiaaGreatDoorK1
import Derived.Test.YtnimhpgacmojiaaGreatDoorK2
import Derived.Test.YtnimhpgacmojiaaGreatDoorK3
import Derived.Test.YtnimhpgacmojiaaGreatDoorK4
namespace Go.Proofs.YtnimhpgacmojiaaGreatDoor
open Go.RowKit
namespace Ab
set_option maxRecDepth 100000
namespace Q
theorem flat_take {n : Nat} : ∀ (css : List (List Value)) (k : Nat), (∀ c ∈ css, c.length = n) → (css.take k).flatten = css.flatten.take (k * n)
  | [], _, _ => by simp
  | c :: r, 0, _ => by simp
  | c :: r, k + 1, h => by
    have h0 : c.length = n := h c (by simp)
    have ih := flat_take r k fun d hd => h d (by simp [hd])
    rw [List.take_succ_cons, List.flatten_cons, List.flatten_cons, ih, Nat.add_mul, Nat.one_mul, Nat.add_comm (k * n) n]
    conv => rhs; rw [← h0]
    rw [List.take_length_add_append, h0]
theorem flat_drop {n : Nat} : ∀ (css : List (List Value)) (k : Nat), (∀ c ∈ css, c.length = n) → (css.drop k).flatten = css.flatten.drop (k * n)
  | [], _, _ => by simp
  | c :: r, 0, _ => by simp
  | c :: r, k + 1, h => by
    have h0 : c.length = n := h c (by simp)
    have ih := flat_drop r k fun d hd => h d (by simp [hd])
    rw [List.drop_succ_cons, List.flatten_cons, ih, Nat.add_mul, Nat.one_mul, Nat.add_comm (k * n) n, ← List.drop_drop, ← h0, List.drop_left, h0]
section
variable {cx : Cx} {ob : Obs} {nx : Nat} {ρ : Nat → Option Value} {w w' : World}
theorem ent_lens {ok : Oks} {xs : List Ent} {css : List (List Value)} (h1 : css.length = xs.length) (h2 : ∀ i (h : i < xs.length), rEnt.is ok w (css.getD i []) xs[i]) : ∀ c ∈ css, c.length = 4 := css_lens h1 h2
theorem ent_ones {ok : Oks} {xs : List Ent} {css : List (List Value)} (h1 : css.length = xs.length) (h2 : ∀ i (h : i < xs.length), rEnt.is ok w (css.getD i []) xs[i]) : ∀ v ∈ css.flatten, v.oneCell' = true := css_ones h1 h2
theorem row_st (hs : StOk cx [] ob nx ρ ⟨#[], []⟩ w) {xs xs' : List Ent} (hg : getO ob 0 = some (.vec 127 rEnt xs)) {v u : Value} (hv : ρ 0 = some v) {css' : List (List Value)} (hl : css'.length = xs'.length)
    (hR : ∀ i (h : i < xs'.length), rEnt.is (okOf cx ρ ob) w (css'.getD i []) xs'[i]) (hrow : RowTo w w' v u xs'.length css'.flatten) :
    ∃ ρ', StOk cx [] (setO 0 (.vec 127 rEnt xs') (subOb 0 .any ob)) nx ρ' ⟨#[], []⟩ w' ∧ (C.vec 0).rep (okOf cx ρ' (setO 0 (.vec 127 rEnt xs') (subOb 0 .any ob))) ρ' w' u := by
  obtain ⟨h1, h2, h3, h4⟩ := hrow
  rw [← hv] at h2
  have h3' : ∀ b, blk (some u) = some b → blk (ρ 0) = some b ∨ (w.heap.size ≤ b ∧ b < w'.heap.size) := by rw [hv]; exact h3
  have hkp := okOf_swap (o' := .vec 127 rEnt xs') hs hg h2 (fun b hb => (h3' b hb).imp (fun h => h) (·.1))
  refine ⟨upd ρ 0 u, hs.swap hg h2 h3' ⟨u, upd_same, css', hl, fun i hi => Rd.kept _ hkp (hR i hi), h1⟩, upd_same, h4⟩
end
theorem getD_app {α : Type} (a b : List α) (i : Nat) (d : α) : (a ++ b).getD i d = if i < a.length then a.getD i d else b.getD (i - a.length) d := by
  simp only [List.getD_eq_getElem?_getD]
  split
  · rename_i h; rw [List.getElem?_append_left h]
  · rename_i h; rw [List.getElem?_append_right (by omega)]
theorem delete_x (xs : List Ent) (i j : Nat) (hij : i < j) (hj : j ≤ xs.length) : ACallX Tryz.prog 67 [.one (.vec 0), ii .i64 i, ii .i64 j] [(0, .vec 127 rEnt xs)] 1 (.one (.vec 0)) [(0, .vec 127 rEnt (xs.take i ++ xs.drop j))] 1 [] := by
  refine ⟨⟨_, Tryz.func67, rfl, rfl⟩, fun cx ρ w vs _ _ _ hs hvs => ?_⟩
  obtain ⟨v, r1, rfl, ⟨hv, _⟩, vi, r2, rfl, hvi, vj, r3, rfl, hvj, hr3⟩ := hvs
  rw [show r3 = [] from hr3, show vi = _ from hvi, show vj = _ from hvj]
  obtain ⟨v', hv', css, h1, h2, hown⟩ : ∃ v, ρ 0 = some v ∧ VecOk (okOf cx ρ [(0, .vec 127 rEnt xs)]) w v 127 rEnt xs := hs.obs (0, .vec 127 rEnt xs) (by simp)
  rw [hv] at hv'
  obtain rfl := Option.some.inj hv'
  have hfl := ent_lens h1 h2
  have hon := ent_ones h1 h2
  rcases id hown.2 with ⟨_, h0⟩ | ⟨b, cap, cur, rfl, _⟩
  · omega
  obtain ⟨cur, hb, hnc, hcm, hcz, htk, hcl⟩ := rowCells hown
  refine (del_w b cap xs.length i j cur w hb hcz hnc hcm hij hj (by rw [htk]; exact hon)).mono ?_
  rintro e w' ⟨rfl, cur', hgr, hb', hcz', hrow⟩
  have hnl : xs.length - (j - i) = (xs.take i ++ xs.drop j).length := by rw [List.length_append, List.length_take, List.length_drop]; omega
  have hf : (css.take i ++ css.drop j).flatten = cur.toList.take (i * 4) ++ (cur.toList.drop (j * 4)).take ((xs.length - j) * 4) := by
    rw [List.flatten_append, flat_take css i hfl, flat_drop css j hfl, ← htk, take4 _ _ _ (by omega), List.drop_take]
    congr 2
    omega
  have hown' : w'.ownsRow 0 127 4 (.slice (some ⟨b, 0, none⟩) (xs.length - (j - i)) cap) (xs.length - (j - i)) (css.take i ++ css.drop j).flatten := by
    rw [hf, ← hrow]
    have hcl' : cur'.toList.length = cap * 4 := by simpa using hcz'
    exact ⟨by rw [List.length_take, hcl']; omega, .inr ⟨b, cap, cur', rfl, Nat.zero_le _, hb', by omega, hcm, hcz', rfl⟩⟩
  rw [hnl] at hown' ⊢
  obtain ⟨ρ', h3, h4⟩ := row_st (xs' := xs.take i ++ xs.drop j) (css' := css.take i ++ css.drop j) (u := .slice (some ⟨b, 0, none⟩) (xs.take i ++ xs.drop j).length cap) hs rfl hv (by simp [h1]) (fun k hk => by
    rw [List.length_append, List.length_take, List.length_drop] at hk
    rw [getD_app, List.getElem_append]
    simp only [List.length_take, h1]
    split
    · rename_i hlt
      have := h2 k (by omega)
      rw [List.getElem_take]
      rw [List.getD_eq_getElem?_getD] at this ⊢
      rw [List.getElem?_take_of_lt (by omega)]
      exact this
    · rename_i hlt
      have := h2 (j + (k - min i xs.length)) (by omega)
      rw [List.getElem_drop]
      rw [List.getD_eq_getElem?_getD] at this ⊢
      rw [List.getElem?_drop]
      exact this) ⟨hown', hgr, fun _ h => .inl h, _, _, _, rfl⟩
  exact ⟨_, ρ', rfl, h3, h4, fun k hk => by cases hk⟩
theorem insert_x (xs : List Ent) (e : Ent) (i : Nat) (hi : i ≤ xs.length) (hn : xs.length ≤ 1000000) : ACallX Tryz.prog 80 [.one (.vec 0), ii .i64 i, .one (.vec 1)] [(0, .vec 127 rEnt xs), (1, .vec 127 rEnt [e])] 2 (.one (.vec 0)) [(0, .vec 127 rEnt (insE xs i e)), (1, .vec 127 rEnt [e])] 2 [] := by
  refine ⟨⟨_, Tryz.func80, rfl, rfl⟩, fun cx ρ w vs _ _ _ hs hvs => ?_⟩
  obtain ⟨v, r1, rfl, ⟨hv, _⟩, vi, r2, rfl, hvi, v2, r3, rfl, ⟨hv2, _⟩, hr3⟩ := hvs
  rw [show r3 = [] from hr3, show vi = _ from hvi]
  obtain ⟨v', hv', css, h1, h2, hown⟩ : ∃ v, ρ 0 = some v ∧ VecOk (okOf cx ρ [(0, .vec 127 rEnt xs), (1, .vec 127 rEnt [e])]) w v 127 rEnt xs := hs.obs (0, .vec 127 rEnt xs) (by simp)
  rw [hv] at hv'
  obtain rfl := Option.some.inj hv'
  obtain ⟨v2', hv2', ess, g1, g2, hown2⟩ : ∃ v, ρ 1 = some v ∧ VecOk (okOf cx ρ [(0, .vec 127 rEnt xs), (1, .vec 127 rEnt [e])]) w v 127 rEnt [e] := hs.obs (1, .vec 127 rEnt [e]) (by simp)
  rw [hv2] at hv2'
  obtain rfl := Option.some.inj hv2'
  obtain ⟨es, rfl⟩ : ∃ es, ess = [es] := List.length_eq_one_iff.1 g1
  have hge := g2 0 Nat.one_pos
  have hel : es.length = 4 := Rd.len rEnt hge
  have hfl := ent_lens h1 h2
  have hon := ent_ones h1 h2
  have hon2 := ent_ones g1 g2
  rcases id hown2.2 with ⟨_, h0⟩ | ⟨vb, vc, cur2, hv2e, _⟩
  · simp at h0
  have hv2e : v2 = .slice (some ⟨vb, 0, none⟩) 1 vc := hv2e
  subst hv2e
  rw [show ([es] : List (List Value)).flatten = es by simp] at hown2 hon2
  have hrow : Calls Tryz.prog 80 #[v, .int .i64 i, .slice (some ⟨vb, 0, none⟩) 1 vc] w fun e' w' => ∃ u, e' = .returned u ∧ RowTo w w' v u (xs.length + 1) (css.flatten.take (i * 4) ++ es ++ css.flatten.drop (i * 4)) := by
    have hcl : css.flatten.length = xs.length * 4 := hown.1
    rcases Nat.lt_or_ge i xs.length with hlt | hge'
    · rcases id hown.2 with ⟨_, h0⟩ | ⟨b, cap, cur, rfl, _⟩
      · omega
      have hne : vb ≠ b := fun e' => hs.sep (0, .vec 127 rEnt xs) (by simp) (1, .vec 127 rEnt [e]) (by simp) Nat.zero_ne_one b (by rw [hv]; rfl) (by rw [hv2, e']; rfl)
      by_cases hroom : xs.length + 1 ≤ cap
      · exact ins_shift xs.length i b cap css.flatten es vb vc w hlt hroom hown hown2 hne hon2 hon
      · exact ins_grow xs.length i b cap css.flatten es vb vc w hlt (by omega) hn hown hown2 hon2 hon
    · obtain rfl : i = xs.length := by omega
      have := ins_end xs.length v css.flatten es vb vc w hown hown2 hon2 hn
      rw [List.take_of_length_le (by omega), List.drop_of_length_le (by omega), List.append_nil]
      exact this
  refine hrow.mono ?_
  rintro e' w' ⟨u, rfl, hrt⟩
  have hf : (css.take i ++ es :: css.drop i).flatten = css.flatten.take (i * 4) ++ es ++ css.flatten.drop (i * 4) := by
    rw [List.flatten_append, List.flatten_cons, flat_take css i hfl, flat_drop css i hfl, List.append_assoc]
  have hnl : xs.length + 1 = (insE xs i e).length := by unfold insE; rw [List.length_append, List.length_cons, List.length_take, List.length_drop]; omega
  rw [← hf, hnl] at hrt
  obtain ⟨ρ', h3, h4⟩ := row_st (xs' := insE xs i e) hs rfl hv (by rw [← hnl]; simp [h1]; omega) (fun k hk => by
    rw [← hnl] at hk
    simp only [insE, getD_app, List.getElem_append, List.length_take, h1]
    split
    · rename_i hlt
      have := h2 k (by omega)
      rw [List.getElem_take]
      rw [List.getD_eq_getElem?_getD] at this ⊢
      rw [List.getElem?_take_of_lt (by omega)]
      exact this
    · rename_i hlt
      obtain ⟨q, hq⟩ : ∃ q, k - min i xs.length = q := ⟨_, rfl⟩
      simp only [hq]
      cases q with
      | zero => exact hge
      | succ q =>
        have := h2 (i + q) (by omega)
        simp only [List.getElem_cons_succ, List.getD_cons_succ, List.getElem_drop]
        rw [List.getD_eq_getElem?_getD] at this ⊢
        rw [List.getElem?_drop]
        exact this) hrt
  exact ⟨_, ρ', rfl, h3, h4, fun k hk => by cases hk⟩
theorem cloneE_o {k : Nat} (es : List Ent) (hl : es.length ≤ 1000000) : ACallO Tryz.prog 70 [.one (.slk k rEnt es)] [] 0 (.one (.vec 0)) [(0, .vec 127 rEnt es)] 1 := by
  refine acallo_of (rs := [2]) Tryz.func70 rfl rfl rfl teOk (by decide) rfl ?_
  refine acode_seq ?_
  refine acode_region ?_
  refine acode_seq ?_
  refine acode_seq ?_
  refine acode_isnil (q := k) [_] _ (R := rEnt) (xs := es) rfl rfl rfl rfl (e := 127) rfl rfl ?_
  refine ⟨rfl, fun b hb => ?_⟩
  refine acode_cond rfl (fun h4 => ?_) (fun h4 => ?_)
  ·have hl0 := hb h4
   subst hl0
   refine acode_seq ?_
   refine acode_region ?_
   refine acode_nilvec 2 127 rEnt rfl ?_
   refine acode_ret ?_
   exact ⟨rfl, rfl, rfl⟩
  ·refine acode_skip ?_
   refine acode_seq ?_
   refine acode_region ?_
   refine And.intro (by first | exact app_le (show es.length ≤ 1000000000 by omega) (by decide) | exact app_le (show 0 + es.length ≤ 1000000000 by omega) (by decide)) ?_
   refine acode_ret ?_
   exact ⟨rfl, rfl, rfl⟩
end Q
end Ab
end Go.Proofs.YtnimhpgacmojiaaGreatDoor
namespace Go.Proofs.YtnimhpgacmojiaaGreatDoor
open Go.RowKit
namespace Ab
set_option maxRecDepth 100000
namespace Q
def recsT (l : List Itm) : List (List Fld) := (l.filter fun x => decide (x.1 = 3)).map (·.2.2)
def fldL (a : List Fld) : List ByteArray := a.flatMap fun f => lineB f.1 f.2
def textT : List (List Fld) → List ByteArray
  | [] => []
  | [a] => fldL a
  | a :: b :: r => fldL a ++ (⟨#[]⟩ :: textT (b :: r))
def GoodS (a : List Fld) : Prop := a ≠ [] ∧ a.length ≤ 40 ∧ ∀ f ∈ a, checkF f = 0
end Q
end Ab
end Go.Proofs.YtnimhpgacmojiaaGreatDoor
namespace Go.Proofs.YtnimhpgacmojiaaGreatDoor
open Go.RowKit
namespace Ab
set_option maxRecDepth 100000
namespace Q
def badAt : Int → List Fld → Int × Int
  | _, [] => (-9, 0)
  | i, f :: r => if checkF f ≠ 0 then (i, checkF f) else badAt (i + 1) r
def chkR (l : List Fld) : Int × Int := if l = [] then (-9, 2) else if 40 < l.length then (-9, 11) else badAt 0 l
def chkA (l : List Fld) : C := if (chkR l).2 = 0 then .lit .nilIface else if (chkR l).1 = -9 then errN (chkR l).2 else errF (chkR l).1 (chkR l).2
theorem badAt_hit : ∀ (l : List Fld) (i : Nat) (k : Int), i < l.length → (∀ f ∈ l.take i, checkF f = 0) → checkF (l.getD i (ByteArray.empty, ByteArray.empty)) ≠ 0 → badAt k l = (k + i, checkF (l.getD i (ByteArray.empty, ByteArray.empty)))
  | [], i, k, h, _, _ => by simp at h
  | f :: r, 0, k, _, _, hb => by
    unfold badAt
    rw [if_pos (by simpa using hb)]
    simp
  | f :: r, i + 1, k, h, ht, hb => by
    unfold badAt
    rw [if_neg (by simpa using ht f (by simp))]
    rw [badAt_hit r i (k + 1) (by simpa using h) (fun g hg => ht g (by simp [hg])) (by simpa using hb)]
    simp only [List.getD_cons_succ]
    congr 1
    omega
theorem badAt_no : ∀ (l : List Fld) (k : Int), (∀ f ∈ l, checkF f = 0) → badAt k l = (-9, 0)
  | [], _, _ => rfl
  | f :: r, k, h => by
    unfold badAt
    rw [if_neg (by simpa using h f (by simp))]
    exact badAt_no r (k + 1) (fun g hg => h g (by simp [hg]))
theorem chkA_nil {l : List Fld} (h : chkR l = (-9, 0)) : chkA l = .lit .nilIface := by unfold chkA; rw [h]; rfl
theorem chkA_no {l : List Fld} {n : Int} (h : chkR l = (-9, n)) (hn : n ≠ 0) : chkA l = errN n := by unfold chkA; rw [h, if_neg hn, if_pos rfl]
theorem chkA_at {l : List Fld} {i n : Int} (h : chkR l = (i, n)) (hn : n ≠ 0) (hi : 0 ≤ i) : chkA l = errF i n := by unfold chkA; rw [h, if_neg hn, if_neg (by show ¬ i = -9; omega)]
theorem pcheck_c {κ : Nat} (l : List Fld) (hl : FldsOk l) : ACall Tryz.prog 145 [.one (.slk κ rFld l)] (.one (chkA l)) := by
  have hln := hl.1
  refine acall_of (rs := [2]) Tryz.func145 rfl rfl rfl teOk rfl ?_
  refine acode_seq ?_
  refine acode_region ?_
  refine acode_seq ?_
  refine acode_block ?_
  refine acode_seq ?_
  refine acode_region ?_
  intro l1_1
  try simp only [Int.toNat_natCast, dflt_sl, dflt_st, dflt_str, dflt_int, dflt_bool] at l1_1
  refine acode_cond rfl (fun h6 => ?_) (fun h6 => ?_)
  ·try simp only [decide_eq_true_eq] at h6
   try simp only [Int.toNat_natCast, dflt_sl, dflt_st, dflt_str, dflt_int, dflt_bool] at h6
   refine acode_seq ?_
   refine acode_region ?_
   refine acode_ret ?_
   rw [chkA_no (l := l) (n := 2) (by unfold chkR; rw [if_pos (List.eq_nil_of_length_eq_zero (by omega))]) (by decide)]
   rfl
  ·try simp only [decide_eq_false_iff_not] at h6
   try simp only [Int.toNat_natCast, dflt_sl, dflt_st, dflt_str, dflt_int, dflt_bool] at h6
   refine acode_seq ?_
   refine acode_region ?_
   intro l3_1
   try simp only [Int.toNat_natCast, dflt_sl, dflt_st, dflt_str, dflt_int, dflt_bool] at l3_1
   refine acode_cond rfl (fun h11 => ?_) (fun h11 => ?_)
   ·try simp only [decide_eq_true_eq] at h11
    try simp only [Int.toNat_natCast, dflt_sl, dflt_st, dflt_str, dflt_int, dflt_bool] at h11
    refine acode_seq ?_
    refine acode_region ?_
    refine acode_ret ?_
    rw [chkA_no (l := l) (n := 11) (by unfold chkR; rw [if_neg (fun e => h6 (by rw [e]; rfl)), if_pos (by omega)]) (by decide)]
    rfl
   ·try simp only [decide_eq_false_iff_not, Int.not_lt] at h11
    try simp only [Int.toNat_natCast, dflt_sl, dflt_st, dflt_str, dflt_int, dflt_bool] at h11
    refine acode_skip ?_
    refine acode_seq ?_
    refine acode_seq ?_
    refine acode_region ?_
    intro l5_1
    try simp only [Int.toNat_natCast, dflt_sl, dflt_st, dflt_str, dflt_int, dflt_bool] at l5_1
    refine acode_block ?_
    refine acode_loopP (fun (i : Nat) => i ≤ l.length ∧ ∀ f ∈ l.take i, checkF f = 0) (fun (i : Nat) => [(16, .one (.slk κ rFld l)), (17, ii .i64 l.length), (18, ii .i64 i)]) (fun (i : Nat) => []) 0 (fun (i : Nat) => l.length - i) 0 (⟨Nat.zero_le _, by simp⟩) (le_of ⟨rfl, rfl, rfl⟩ trivial rfl) ?_
    intro i hI1
    obtain ⟨hi, hall⟩ := hI1
    refine acode_seq ?_
    refine acode_region ?_
    refine acode_seq ?_
    refine acode_cond rfl (fun h19 => ?_) (fun h19 => ?_)
    ·try simp only [decide_eq_true_eq] at h19
     try simp only [Int.toNat_natCast, dflt_sl, dflt_st, dflt_str, dflt_int, dflt_bool] at h19
     have hlt : i < l.length := (by omega)
     have hm := hl.2 _ (getD_mem hlt (ByteArray.empty, ByteArray.empty))
     have hne : l ≠ [] := (fun e => by rw [e] at hlt; simp at hlt)
     refine acode_skip ?_
     refine acode_seq ?_
     refine acode_block ?_
     refine acode_seq ?_
     refine acode_region ?_
     refine And.intro (by first | omega | assumption | decide | (simp only [Int.toNat_natCast, dflt_sl, dflt_st, dflt_str, dflt_int, dflt_bool]; omega) | (simp <;> omega)) ?_
     refine acode_seq ?_
     rcases check_cases (l.getD i (ByteArray.empty, ByteArray.empty)) with hc|hc|hc
     ·refine acode_region ?_
      refine Or.inl ?_
      refine And.intro (rfl) ?_
      refine Exists.intro _ (And.intro (check_v (l.getD i (ByteArray.empty, ByteArray.empty)) _ (by omega) hc) ?_)
      refine acode_seq ?_
      refine acode_region ?_
      refine acode_cond rfl (fun h26 => ?_) (fun h26 => ?_)
      ·skip
       refine acode_seq ?_
       refine acode_region ?_
       refine acode_ret ?_
       rw [chkA_at (l := l) (i := i) (n := 5) (by unfold chkR; rw [if_neg hne, if_neg (by omega), badAt_hit l i 0 hlt hall (by rw [hc]; decide), hc]; simp) (by decide) (by omega)]
       rfl
      ·try simp only [decide_eq_true_eq, decide_eq_false_iff_not, Bool.and_eq_true, Bool.not_eq_true', Bool.not_eq_false', Bool.or_eq_false_iff, Bool.or_eq_true, Bool.and_eq_false_iff, Int.not_lt, Int.not_le] at h26
       try simp only [Int.toNat_natCast, dflt_sl, dflt_st, dflt_str, dflt_int, dflt_bool] at h26
       cases h26
     ·refine acode_region ?_
      refine Or.inl ?_
      refine And.intro (rfl) ?_
      refine Exists.intro _ (And.intro (check_v (l.getD i (ByteArray.empty, ByteArray.empty)) _ (by omega) hc) ?_)
      refine acode_seq ?_
      refine acode_region ?_
      refine acode_cond rfl (fun h26 => ?_) (fun h26 => ?_)
      ·skip
       refine acode_seq ?_
       refine acode_region ?_
       refine acode_ret ?_
       rw [chkA_at (l := l) (i := i) (n := 6) (by unfold chkR; rw [if_neg hne, if_neg (by omega), badAt_hit l i 0 hlt hall (by rw [hc]; decide), hc]; simp) (by decide) (by omega)]
       rfl
      ·try simp only [decide_eq_true_eq, decide_eq_false_iff_not, Bool.and_eq_true, Bool.not_eq_true', Bool.not_eq_false', Bool.or_eq_false_iff, Bool.or_eq_true, Bool.and_eq_false_iff, Int.not_lt, Int.not_le] at h26
       try simp only [Int.toNat_natCast, dflt_sl, dflt_st, dflt_str, dflt_int, dflt_bool] at h26
       cases h26
     ·refine acode_region ?_
      refine Or.inl ?_
      refine And.intro (rfl) ?_
      refine Exists.intro _ (And.intro (check_v (l.getD i (ByteArray.empty, ByteArray.empty)) _ (by omega) hc) ?_)
      refine acode_seq ?_
      refine acode_region ?_
      refine acode_cond rfl (fun h26 => ?_) (fun h26 => ?_)
      ·try simp only [Bool.not_eq_true'] at h26
       try simp only [Int.toNat_natCast, dflt_sl, dflt_st, dflt_str, dflt_int, dflt_bool] at h26
       cases h26
      ·try simp only [Bool.not_eq_false'] at h26
       try simp only [Int.toNat_natCast, dflt_sl, dflt_st, dflt_str, dflt_int, dflt_bool] at h26
       refine acode_skip ?_
       refine acode_region ?_
       refine And.intro (by first | omega | assumption | decide | (simp only [Int.toNat_natCast, dflt_sl, dflt_st, dflt_str, dflt_int, dflt_bool]; omega) | (simp <;> omega)) ?_
       exact ⟨i + 1, ⟨by omega, by rw [← take_snoc (ByteArray.empty, ByteArray.empty) hlt]; intro f hf; rcases List.mem_append.1 hf with h|h; exact hall f h; rw [List.mem_singleton.1 h]; exact hc⟩, by first | omega | (simp <;> omega), le_of ⟨rfl, rfl, (ii_eq (by omega))⟩ trivial rfl⟩
    ·try simp only [decide_eq_false_iff_not, Int.not_lt] at h19
     try simp only [Int.toNat_natCast, dflt_sl, dflt_st, dflt_str, dflt_int, dflt_bool] at h19
     refine acode_exit ?_
     refine acode_seq ?_
     refine acode_region ?_
     refine acode_ret ?_
     rw [List.take_of_length_le (by omega)] at hall
     rw [chkA_nil (by unfold chkR; rw [if_neg (fun e => h6 (by rw [e]; rfl)), if_neg (by omega)]; exact badAt_no l 0 hall)]
     rfl
theorem badAt_zero : ∀ (l : List Fld) (k : Int), (badAt k l).2 = 0 → (∀ f ∈ l, checkF f = 0)
  | [], _, _, f, hf => by cases hf
  | g :: r, k, h, f, hf => by
    unfold badAt at h
    split at h
    · rename_i hg; exact absurd h hg
    · rename_i hg
      rcases List.mem_cons.1 hf with rfl | hf
      · exact Classical.not_not.1 hg
      · exact badAt_zero r (k + 1) h f hf
theorem chk_good {l : List Fld} (h : (chkR l).2 = 0) : GoodS l ∧ badF l = 0 ∧ chkA l = .lit .nilIface := by
  have hA : chkA l = .lit .nilIface := by unfold chkA; rw [if_pos h]
  unfold chkR at h
  split at h
  · cases h
  · rename_i h0
    split at h
    · cases h
    · rename_i h4
      have := badAt_zero l 0 h
      exact ⟨⟨h0, by omega, this⟩, badF_ok this, hA⟩
theorem chk_bad {l : List Fld} (h : (chkR l).2 ≠ 0) : ∃ e, chkA l = e ∧ ((∃ n, n ≠ 0 ∧ e = errN n ∧ chkR l = (-9, n)) ∨ ∃ i n, n ≠ 0 ∧ e = errF i n ∧ chkR l = (i, n)) := by
  refine ⟨_, rfl, ?_⟩
  unfold chkA
  rw [if_neg h]
  by_cases h9 : (chkR l).1 = -9
  · rw [if_pos h9]
    exact .inl ⟨_, h, rfl, Prod.ext h9 rfl⟩
  · rw [if_neg h9]
    exact .inr ⟨_, _, h, rfl, rfl⟩
theorem pstanza_ok {κ : Nat} {l : List Fld} (hl : FldsOk l) (h : (chkR l).2 = 0) : ACall Tryz.prog 117 [.one (.slk κ rFld l)] (.tup [(false, [.lit (.string (bytes (foldL l)))]), (false, [.lit .nilIface])]) := by
  obtain ⟨h1, h2, h3⟩ := chk_good h
  have hc := pcheck_c (κ := κ) l hl
  rw [h3] at hc
  refine acall_of (rs := [2, 3]) Tryz.func117 rfl rfl rfl teOk rfl ?_
  refine acode_seq ?_
  refine acode_region ?_
  refine acode_seq ?_
  refine acode_seq ?_
  refine acode_region ?_
  refine Or.inl ?_
  refine And.intro (rfl) ?_
  refine Exists.intro _ (And.intro (hc) ?_)
  refine acode_seq ?_
  refine acode_region ?_
  refine acode_cond rfl (fun h8 => ?_) (fun h8 => ?_)
  ·try simp only [Bool.not_eq_true'] at h8
   try simp only [Int.toNat_natCast, dflt_sl, dflt_st, dflt_str, dflt_int, dflt_bool] at h8
   cases h8
  ·try simp only [Bool.not_eq_false'] at h8
   try simp only [Int.toNat_natCast, dflt_sl, dflt_st, dflt_str, dflt_int, dflt_bool] at h8
   refine acode_skip ?_
   refine acode_seq ?_
   refine acode_region ?_
   refine Or.inl ?_
   refine And.intro (rfl) ?_
   refine Exists.intro _ (And.intro (fold_yes hl h2) ?_)
   refine acode_ret ?_
   rfl
theorem pstanza_err {κ : Nat} {l : List Fld} (hl : FldsOk l) (h : (chkR l).2 ≠ 0) : ACall Tryz.prog 117 [.one (.slk κ rFld l)] (.tup [(false, [.lit (.string ⟨#[]⟩)]), (false, [chkA l])]) := by
  have hc := pcheck_c (κ := κ) l hl
  obtain ⟨e, he, hs⟩ := chk_bad h
  rw [he] at hc ⊢
  rcases hs with ⟨n, hn, rfl, _⟩ | ⟨i, n, hn, rfl, _⟩
  ·
    refine acall_of (rs := [2, 3]) Tryz.func117 rfl rfl rfl teOk rfl ?_
    refine acode_seq ?_
    refine acode_region ?_
    refine acode_seq ?_
    refine acode_seq ?_
    refine acode_region ?_
    refine Or.inl ?_
    refine And.intro (rfl) ?_
    refine Exists.intro _ (And.intro (hc) ?_)
    refine acode_seq ?_
    refine acode_region ?_
    refine acode_cond rfl (fun h8 => ?_) (fun h8 => ?_)
    ·skip
     refine acode_seq ?_
     refine acode_region ?_
     refine acode_ret ?_
     rfl
    ·try simp only [decide_eq_true_eq, decide_eq_false_iff_not, Bool.and_eq_true, Bool.not_eq_true', Bool.not_eq_false', Bool.or_eq_false_iff, Bool.or_eq_true, Bool.and_eq_false_iff, Int.not_lt, Int.not_le] at h8
     try simp only [Int.toNat_natCast, dflt_sl, dflt_st, dflt_str, dflt_int, dflt_bool] at h8
     cases h8
  ·
    refine acall_of (rs := [2, 3]) Tryz.func117 rfl rfl rfl teOk rfl ?_
    refine acode_seq ?_
    refine acode_region ?_
    refine acode_seq ?_
    refine acode_seq ?_
    refine acode_region ?_
    refine Or.inl ?_
    refine And.intro (rfl) ?_
    refine Exists.intro _ (And.intro (hc) ?_)
    refine acode_seq ?_
    refine acode_region ?_
    refine acode_cond rfl (fun h8 => ?_) (fun h8 => ?_)
    ·skip
     refine acode_seq ?_
     refine acode_region ?_
     refine acode_ret ?_
     rfl
    ·try simp only [decide_eq_true_eq, decide_eq_false_iff_not, Bool.and_eq_true, Bool.not_eq_true', Bool.not_eq_false', Bool.or_eq_false_iff, Bool.or_eq_true, Bool.and_eq_false_iff, Int.not_lt, Int.not_le] at h8
     try simp only [Int.toNat_natCast, dflt_sl, dflt_st, dflt_str, dflt_int, dflt_bool] at h8
     cases h8
end Q
end Ab
end Go.Proofs.YtnimhpgacmojiaaGreatDoor
namespace Go.Proofs.YtnimhpgacmojiaaGreatDoor
open Go.RowKit
namespace Ab
set_option maxRecDepth 100000
namespace Q
theorem clone_c {k : Nat} (l : List Fld) (hl : l.length ≤ 1000000) : ACall Tryz.prog 66 [.one (.slk k rFld l)] (.one (.sl rFld l)) := by
  refine acall_of (rs := [2]) Tryz.func66 rfl rfl rfl teOk rfl ?_
  refine acode_seq ?_
  refine acode_region ?_
  refine acode_seq ?_
  refine acode_seq ?_
  refine acode_isnil (q := k) [_] _ (R := rFld) (xs := l) rfl rfl rfl rfl (e := 91) rfl rfl ?_
  refine ⟨rfl, fun b hb => ?_⟩
  refine acode_cond rfl (fun h4 => ?_) (fun h4 => ?_)
  ·have hl0 := hb h4
   subst hl0
   refine acode_seq ?_
   refine acode_region ?_
   refine acode_nilvec 2 91 rFld rfl ?_
   refine acode_ret ?_
   rfl
  ·refine acode_skip ?_
   refine acode_seq ?_
   refine acode_region ?_
   refine And.intro (by first | exact app_le (show l.length ≤ 1000000000 by omega) (by decide) | exact app_le (show 0 + l.length ≤ 1000000000 by omega) (by decide)) ?_
   refine acode_ret ?_
   rfl
theorem copied_c (x : Itm) (hx : x.2.2.length ≤ 1000000) : ACall Tryz.prog 136 [.agg (toL rItm x)] (.agg (toL rItm x)) := by
  refine acall_ofc (rs := [.cell 2 71]) Tryz.func136 rfl rfl rfl teOk rfl ?_
  refine acode_seq ?_
  refine acode_region ?_
  refine acode_seq ?_
  refine acode_region ?_
  refine Or.inl ?_
  refine And.intro (rfl) ?_
  refine Exists.intro _ (And.intro (clone_c x.2.2 hx) ?_)
  refine acode_seq ?_
  refine acode_region ?_
  refine acode_ret ?_
  rfl
theorem render_c (l m : List Itm) (hm : m.length ≤ 1000000) (hs : szI m ≤ 100000000) (ha : ACall Tryz.prog 108 [.one (.sl rItm l)] (.one (.sl rItm m))) : ACall Tryz.prog 75 [.one (.sl rItm l)] (is (bytes (rawsL m))) := by
  refine acall_of (rs := [2]) Tryz.func75 rfl rfl rfl teOk rfl ?_
  refine acode_seq ?_
  refine acode_region ?_
  refine acode_seq ?_
  refine acode_region ?_
  refine Or.inl ?_
  refine And.intro (rfl) ?_
  refine Exists.intro _ (And.intro (ha) ?_)
  refine Or.inl ?_
  refine And.intro (rfl) ?_
  refine Exists.intro _ (And.intro (joinI_c m hm hs) ?_)
  refine acode_ret ?_
  rfl
theorem apartK_snoc : ∀ (l : List Itm) (k : Int) (x : Itm), apartK k (l ++ [x]) = apartK k l ++ (if lastK k l ≠ 1 ∧ x.1 ≠ 1 then [(1, ⟨#[10]⟩, []), x] else [x])
  | [], k, x => by
    unfold lastK
    rw [List.nil_append]
    unfold apartK
    by_cases h : k ≠ 1 ∧ x.1 ≠ 1
    · rw [if_pos h, if_pos h]; rfl
    · rw [if_neg h, if_neg h]; rfl
  | y :: r, k, x => by
    have ih := apartK_snoc r y.1 x
    rw [List.cons_append]
    unfold apartK lastK
    rw [ih]
    by_cases h : k ≠ 1 ∧ y.1 ≠ 1
    · rw [if_pos h, if_pos h]; rfl
    · rw [if_neg h, if_neg h]; rfl
theorem lastK_take {l : List Itm} {i : Nat} (h : i < l.length) (k : Int) : lastK k (l.take (i + 1)) = (l.getD i ((0 : Int), ByteArray.empty, ([] : List Fld))).1 := by
  rw [List.take_succ_eq_append_getElem h, lastK_app, getD_get h ((0 : Int), ByteArray.empty, ([] : List Fld))]
  rfl
theorem apart_snoc (l : List Itm) (i : Nat) (h : i < l.length) : apartL (l.take (i + 1)) = apartL (l.take i) ++ (if (0 < i ∧ (l.getD (i - 1) ((0 : Int), ByteArray.empty, ([] : List Fld))).1 ≠ 1) ∧ (l.getD i ((0 : Int), ByteArray.empty, ([] : List Fld))).1 ≠ 1 then [(1, ⟨#[10]⟩, []), l.getD i ((0 : Int), ByteArray.empty, ([] : List Fld))] else [l.getD i ((0 : Int), ByteArray.empty, ([] : List Fld))]) := by
  unfold apartL
  rw [List.take_succ_eq_append_getElem h, apartK_snoc, getD_get h ((0 : Int), ByteArray.empty, ([] : List Fld))]
  have e : lastK 1 (l.take i) ≠ 1 ↔ (0 < i ∧ (l.getD (i - 1) ((0 : Int), ByteArray.empty, ([] : List Fld))).1 ≠ 1) := by
    cases i with
    | zero => simp [lastK]
    | succ i => rw [lastK_take (by omega), Nat.add_sub_cancel]; simp
  congr 1
  by_cases hh : lastK 1 (l.take i) ≠ 1 ∧ (l.getD i ((0 : Int), ByteArray.empty, ([] : List Fld))).1 ≠ 1
  · rw [if_pos hh, if_pos ⟨e.1 hh.1, hh.2⟩]
  · rw [if_neg hh, if_neg (fun g => hh ⟨e.2 g.1, g.2⟩)]
theorem apartK_len : ∀ (l : List Itm) (k : Int), (apartK k l).length ≤ 2 * l.length
  | [], _ => by simp [apartK]
  | x :: r, k => by
    have := apartK_len r x.1
    unfold apartK
    split <;> (simp only [List.length_cons]; omega)
theorem apart_c (l : List Itm) (hl : l.length ≤ 1000000) (hf : ∀ x ∈ l, x.2.2.length ≤ 1000000) : ACall Tryz.prog 108 [.one (.sl rItm l)] (.one (.sl rItm (apartL l))) := by
  refine acall_of (rs := [2]) Tryz.func108 rfl rfl rfl teOk rfl ?_
  refine acode_seq ?_
  refine acode_region ?_
  refine acode_seq ?_
  refine acode_region ?_
  refine acode_seq ?_
  refine acode_seq ?_
  refine acode_nilvec 3 71 rItm rfl ?_
  refine acode_region ?_
  intro l2_1
  try simp only [Int.toNat_natCast, dflt_sl, dflt_st, dflt_str, dflt_int, dflt_bool] at l2_1
  refine acode_block ?_
  refine acode_loopP (fun (i : Nat) => i ≤ l.length) (fun (i : Nat) => [(0, .one (.sl rItm l)), (3, .one (.vec 0)), (6, .one (.sl rItm l)), (7, ii .i64 l.length), (8, ii .i64 i)]) (fun (i : Nat) => [(0, .vec 71 rItm (apartL (l.take i)))]) 1 (fun (i : Nat) => l.length - i) 0 (Nat.zero_le _) (le_of ⟨rfl, rfl, rfl, rfl, rfl⟩ rfl rfl) ?_
  intro i hI0
  refine acode_seq ?_
  refine acode_region ?_
  refine acode_seq ?_
  refine acode_cond rfl (fun h9 => ?_) (fun h9 => ?_)
  ·try simp only [decide_eq_true_eq] at h9
   try simp only [Int.toNat_natCast, dflt_sl, dflt_st, dflt_str, dflt_int, dflt_bool] at h9
   have hil : i < l.length := (by omega)
   have hsn := apart_snoc l i hil
   have hal := apartK_len (l.take i) 1
   rw [List.length_take] at hal
   have hal : (apartL (l.take i)).length ≤ 2 * min i l.length := hal
   have e1 : ((i : Int) - 1).toNat = i - 1 := (by omega)
   refine acode_skip ?_
   refine acode_seq ?_
   refine acode_block ?_
   refine acode_seq ?_
   refine acode_region ?_
   refine And.intro (by first | omega | assumption | decide | (simp only [Int.toNat_natCast, dflt_sl, dflt_st, dflt_str, dflt_int, dflt_bool]; omega) | (simp <;> omega)) ?_
   refine acode_seq ?_
   refine acode_seq ?_
   refine acode_region ?_
   refine And.intro (fun h => trivial) ?_
   refine And.intro (fun h => ⟨⟨h, trivial⟩, trivial⟩) ?_
   refine And.intro (fun h => ⟨⟨h, trivial⟩, trivial⟩) ?_
   refine And.intro (by exact fun h => h) ?_
   refine And.intro (fun h => trivial) ?_
   refine And.intro (fun h => trivial) ?_
   refine And.intro (fun h => ⟨⟨⟨h, trivial⟩, trivial⟩, by first | omega | decide | (simp only [Int.toNat_natCast, dflt_sl, dflt_st, dflt_str, dflt_int, dflt_bool]; omega) | (have h9 := of_decide_eq_true h; omega) | (simp [gq] at h; omega)⟩) ?_
   refine And.intro (fun h => ⟨⟨⟨h, trivial⟩, ⟨h, trivial⟩, trivial⟩, by first | omega | decide | (simp only [Int.toNat_natCast, dflt_sl, dflt_st, dflt_str, dflt_int, dflt_bool]; omega) | (have h9 := of_decide_eq_true h; omega) | (simp [gq] at h; omega)⟩) ?_
   refine And.intro (fun h => ⟨⟨h, trivial⟩, trivial⟩) ?_
   refine And.intro (fun h => ⟨⟨h, trivial⟩, trivial⟩) ?_
   refine And.intro (fun h => ⟨⟨h, trivial⟩, trivial⟩) ?_
   refine And.intro (by exact fun h => h) ?_
   refine acode_cond rfl (fun h28 => ?_) (fun h28 => ?_)
   ·try simp only [decide_eq_true_eq, decide_eq_false_iff_not, Bool.and_eq_true, Bool.not_eq_true'] at h28
    try simp only [Int.toNat_natCast, dflt_sl, dflt_st, dflt_str, dflt_int] at h28
    rw [e1] at h28
    rw [if_pos ⟨⟨by omega, h28.2⟩, h28.1.2⟩] at hsn
    refine acode_region ?_
    refine And.intro (by exact app_le (show (apartL (l.take i)).length + 1 ≤ 1000000000 by omega) (by decide)) ?_
    refine acode_region ?_
    refine Or.inl ?_
    refine And.intro (rfl) ?_
    refine Exists.intro _ (And.intro (copied_c (l.getD i ((0 : Int), ByteArray.empty, ([] : List Fld))) (hf _ (getD_mem hil ((0 : Int), ByteArray.empty, ([] : List Fld))))) ?_)
    refine And.intro (by exact app_le (by rw [List.length_append]; show (apartL (l.take i)).length + 1 + 1 ≤ 1000000000; omega) (by decide)) ?_
    refine acode_region ?_
    refine And.intro (by first | omega | assumption | decide | (simp only [Int.toNat_natCast, dflt_sl, dflt_st, dflt_str, dflt_int, dflt_bool]; omega) | (simp <;> omega)) ?_
    exact ⟨i + 1, by omega, by first | omega | (simp <;> omega), le_of ⟨rfl, rfl, rfl, rfl, (ii_eq (by omega))⟩ (vec_eq (by rw [hsn]; (try rw [List.append_assoc]); (try exact rfl))) rfl⟩
   ·try simp only [decide_eq_true_eq, decide_eq_false_iff_not, Bool.not_eq_false', Bool.and_eq_false_iff, Int.not_lt] at h28
    try simp only [Int.toNat_natCast, dflt_sl, dflt_st, dflt_str, dflt_int] at h28
    rw [e1] at h28
    rw [if_neg (fun h => h28.elim (fun g => g.elim (fun g => by omega) (fun g => h.2 g)) (fun g => h.1.2 g))] at hsn
    refine acode_skip ?_
    refine acode_region ?_
    refine Or.inl ?_
    refine And.intro (rfl) ?_
    refine Exists.intro _ (And.intro (copied_c (l.getD i ((0 : Int), ByteArray.empty, ([] : List Fld))) (hf _ (getD_mem hil ((0 : Int), ByteArray.empty, ([] : List Fld))))) ?_)
    refine And.intro (by exact app_le (show (apartL (l.take i)).length + 1 ≤ 1000000000 by omega) (by decide)) ?_
    refine acode_region ?_
    refine And.intro (by first | omega | assumption | decide | (simp only [Int.toNat_natCast, dflt_sl, dflt_st, dflt_str, dflt_int, dflt_bool]; omega) | (simp <;> omega)) ?_
    exact ⟨i + 1, by omega, by first | omega | (simp <;> omega), le_of ⟨rfl, rfl, rfl, rfl, (ii_eq (by omega))⟩ (vec_eq (by rw [hsn]; (try rw [List.append_assoc]); (try exact rfl))) rfl⟩
  ·try simp only [decide_eq_false_iff_not, Int.not_lt] at h9
   try simp only [Int.toNat_natCast, dflt_sl, dflt_st, dflt_str, dflt_int, dflt_bool] at h9
   refine acode_exit ?_
   refine acode_seq ?_
   refine acode_region ?_
   refine acode_ret ?_
   rw [List.take_of_length_le (by omega)]
   rfl
def al6 : List (List Fld) := [[(⟨#[65]⟩, ⟨#[49]⟩)], [(⟨#[66]⟩, ⟨#[50]⟩)]]
end Q
end Ab
end Go.Proofs.YtnimhpgacmojiaaGreatDoor
namespace Go.Proofs.YtnimhpgacmojiaaGreatDoor
open Go.RowKit
namespace Ab
set_option maxRecDepth 100000
namespace Q
def itEs (es : List Ent) : List (List A) := (es.filter live).map fun e => [A.agg (toL rEnt e)]
def cntL (es : List Ent) : Nat := (es.filter live).length
end Q
end Ab
end Go.Proofs.YtnimhpgacmojiaaGreatDoor
namespace Go.Proofs.YtnimhpgacmojiaaGreatDoor
open Go.RowKit
namespace Ab
set_option maxRecDepth 100000
namespace Q
theorem index_E (f : FuncId) {k : Nat} {β : Type} (S : Rd β) (y : β) (l : List Ent) (p : Ent → Bool) (hp : ∀ x ∈ l, ACall Tryz.prog f [.agg (toL rEnt x), .one (.addr S y)] (ib (p x))) : ACall Tryz.prog 101 [.one (.slk k rEnt l), .one (.clo f (.addr S y))] (ii .i64 (ixOf p l)) := by
  refine acall_of (rs := [4]) Tryz.func101 rfl rfl rfl teOk rfl ?_
  refine acode_seq ?_
  refine acode_region ?_
  refine acode_seq ?_
  refine acode_seq ?_
  refine acode_region ?_
  intro l1_1
  try simp only [Int.toNat_natCast, dflt_sl, dflt_st, dflt_str, dflt_int, dflt_bool] at l1_1
  refine acode_block ?_
  refine acode_loopP (fun (i : Nat) => i ≤ l.length ∧ (l.take i).any p = false) (fun (i : Nat) => [(0, .one (.slk k rEnt l)), (1, .one (.clo f (.addr S y))), (7, ii .i64 l.length), (8, ii .i64 i)]) (fun (i : Nat) => []) 0 (fun (i : Nat) => l.length - i) 0 (⟨Nat.zero_le _, rfl⟩) (le_of ⟨rfl, rfl, rfl, rfl⟩ trivial rfl) ?_
  intro i hI0
  obtain ⟨hi, hn⟩ := hI0
  refine acode_seq ?_
  refine acode_region ?_
  refine acode_seq ?_
  refine acode_cond rfl (fun h9 => ?_) (fun h9 => ?_)
  ·try simp only [decide_eq_true_eq] at h9
   try simp only [Int.toNat_natCast, dflt_sl, dflt_st, dflt_str, dflt_int, dflt_bool] at h9
   refine acode_skip ?_
   refine acode_seq ?_
   refine acode_block ?_
   refine acode_seq ?_
   refine acode_region ?_
   refine acode_seq ?_
   refine acode_region ?_
   refine And.intro (by first | omega | assumption | decide | (simp only [Int.toNat_natCast, dflt_sl, dflt_st, dflt_str, dflt_int, dflt_bool]; omega) | (simp <;> omega)) ?_
   refine Or.inl ?_
   refine And.intro (rfl) ?_
   refine Exists.intro _ (And.intro (hp _ (getD_mem (show i < l.length by omega) _)) ?_)
   refine acode_cond rfl (fun h16 => ?_) (fun h16 => ?_)
   ·try simp only [decide_eq_true_eq, decide_eq_false_iff_not, Bool.and_eq_true, Bool.not_eq_true', Bool.not_eq_false', Bool.or_eq_false_iff, Bool.or_eq_true, Bool.and_eq_false_iff, Int.not_lt, Int.not_le] at h16
    try simp only [Int.toNat_natCast, dflt_sl, dflt_st, dflt_str, dflt_int] at h16
    refine acode_seq ?_
    refine acode_region ?_
    refine acode_ret ?_
    exact ii_eq (ixOf_at (((0 : Int), ByteArray.empty, ([] : List Fld)), (0 : Int)) (by omega) hn h16).symm
   ·try simp only [decide_eq_true_eq, decide_eq_false_iff_not, Bool.and_eq_true, Bool.not_eq_true', Bool.not_eq_false', Bool.or_eq_false_iff, Bool.or_eq_true, Bool.and_eq_false_iff, Int.not_lt, Int.not_le] at h16
    try simp only [Int.toNat_natCast, dflt_sl, dflt_st, dflt_str, dflt_int] at h16
    refine acode_skip ?_
    refine acode_region ?_
    refine And.intro (by first | omega | assumption | decide | (simp only [Int.toNat_natCast, dflt_sl, dflt_st, dflt_str, dflt_int, dflt_bool]; omega) | (simp <;> omega)) ?_
    exact ⟨i + 1, ⟨by omega, by rw [take_any l p (((0 : Int), ByteArray.empty, ([] : List Fld)), (0 : Int)) i (by omega), hn]; exact h16⟩, by first | omega | (simp <;> omega), le_of ⟨rfl, rfl, rfl, rfl⟩ trivial rfl⟩
  ·try simp only [decide_eq_false_iff_not, Int.not_lt] at h9
   try simp only [Int.toNat_natCast, dflt_sl, dflt_st, dflt_str, dflt_int, dflt_bool] at h9
   refine acode_exit ?_
   refine acode_seq ?_
   refine acode_region ?_
   refine acode_ret ?_
   have e : i = l.length := by omega
   subst e
   rw [List.take_length] at hn
   exact ii_eq (ixOf_none hn).symm
theorem at1_c (id : Int) (e : Ent) : ACall Tryz.prog 102 [.agg (toL rEnt e), .one (.addr (.int .i64) id)] (ib (hasId id e)) := by
  refine acall_of (rs := [3]) Tryz.func102 rfl rfl rfl teOk rfl ?_
  refine acode_seq ?_
  refine acode_region ?_
  refine acode_seq ?_
  refine acode_region ?_
  refine acode_ret ?_
  rfl
theorem at_c {k : Nat} (es : List Ent) (n m id : Int) : ACall Tryz.prog 65 [.one (.adk k (rLst k) (es, n, m)), ii .i64 id] (ii .i64 (atE es id)) := by
  refine acall_of (rs := [4]) Tryz.func65 rfl rfl rfl teOk rfl ?_
  refine acode_seq ?_
  refine acode_region ?_
  refine acode_seq ?_
  refine acode_seq ?_
  refine acode_region ?_
  refine And.intro (fun h => trivial) ?_
  refine And.intro (fun h => ⟨⟨h, trivial⟩, trivial⟩) ?_
  refine And.intro (by first | (intro h; rw [h]; rfl) | (intro h; cases h)) ?_
  refine acode_cond rfl (fun h10 => ?_) (fun h10 => ?_)
  ·try simp only [decide_eq_true_eq, Bool.or_eq_true] at h10
   try simp only [Int.toNat_natCast, dflt_sl, dflt_st, dflt_str, dflt_int, dflt_bool] at h10
   have h10 : id < 1 := h10.elim (fun h => by cases h) (fun h => h)
   refine acode_seq ?_
   refine acode_region ?_
   refine acode_ret ?_
   exact ii_eq (by unfold atE; rw [if_pos h10])
  ·try simp only [decide_eq_false_iff_not, Bool.or_eq_false_iff, Int.not_lt] at h10
   try simp only [Int.toNat_natCast, dflt_sl, dflt_st, dflt_str, dflt_int, dflt_bool] at h10
   have h10 : ¬ id < 1 := (by simp at h10; omega)
   refine acode_skip ?_
   refine acode_seq ?_
   refine acode_region ?_
   refine Or.inl ?_
   refine And.intro (rfl) ?_
   refine Exists.intro _ (And.intro (index_E _ (.int .i64) id es (hasId id) (fun x _ => at1_c id x)) ?_)
   refine acode_ret ?_
   exact ii_eq (by unfold atE; rw [if_neg h10])
theorem next_c {k : Nat} (es : List Ent) (n m : Int) : ACall Tryz.prog 35 [.one (.adk k (rLst k) (es, n, m))] (ii .i64 n) := by
  refine acall_of (rs := [2]) Tryz.func35 rfl rfl rfl teOk rfl ?_
  refine acode_seq ?_
  refine acode_region ?_
  refine acode_seq ?_
  refine acode_seq ?_
  refine acode_region ?_
  refine acode_cond rfl (fun h4 => ?_) (fun h4 => ?_)
  ·try simp only [decide_eq_true_eq, decide_eq_false_iff_not, Bool.and_eq_true, Bool.not_eq_true', Bool.not_eq_false', Bool.or_eq_false_iff, Bool.or_eq_true, Bool.and_eq_false_iff, Int.not_lt, Int.not_le] at h4
   try simp only [Int.toNat_natCast, dflt_sl, dflt_st, dflt_str, dflt_int, dflt_bool] at h4
   simp at h4
  ·skip
   refine acode_skip ?_
   refine acode_seq ?_
   refine acode_region ?_
   refine acode_ret ?_
   rfl
theorem len_c {k : Nat} (es : List Ent) (n m : Int) : ACall Tryz.prog 31 [.one (.adk k (rLst k) (es, n, m))] (ii .i64 m) := by
  refine acall_of (rs := [2]) Tryz.func31 rfl rfl rfl teOk rfl ?_
  refine acode_seq ?_
  refine acode_region ?_
  refine acode_seq ?_
  refine acode_seq ?_
  refine acode_region ?_
  refine acode_cond rfl (fun h4 => ?_) (fun h4 => ?_)
  ·try simp only [decide_eq_true_eq, decide_eq_false_iff_not, Bool.and_eq_true, Bool.not_eq_true', Bool.not_eq_false', Bool.or_eq_false_iff, Bool.or_eq_true, Bool.and_eq_false_iff, Int.not_lt, Int.not_le] at h4
   try simp only [Int.toNat_natCast, dflt_sl, dflt_st, dflt_str, dflt_int, dflt_bool] at h4
   simp at h4
  ·skip
   refine acode_skip ?_
   refine acode_seq ?_
   refine acode_region ?_
   refine acode_ret ?_
   rfl
theorem at_lt {es : List Ent} {id : Int} (h : ¬ atE es id < 0) : ∃ i : Nat, i < es.length ∧ atE es id = i ∧ 0 < id ∧ (es.getD i (((0 : Int), ByteArray.empty, ([] : List Fld)), (0 : Int))).2 = id := by
  rcases at_cases es id with ⟨h1, _⟩ | ⟨i, h1, h2, h3, h4, _⟩
  · omega
  · exact ⟨i, h1, h2, h3, h4⟩
theorem raw_c {k : Nat} (es : List Ent) (n m id : Int) : ACall Tryz.prog 39 [.one (.adk k (rLst k) (es, n, m)), ii .i64 id] (.tup [(false, [.lit (.string (if atE es id < 0 then ⟨#[]⟩ else rawL es id))]), (false, [.lit (.bool (decide (0 ≤ atE es id)))])]) := by
  refine acall_of (rs := [4, 5]) Tryz.func39 rfl rfl rfl teOk rfl ?_
  refine acode_seq ?_
  refine acode_region ?_
  refine acode_seq ?_
  refine acode_region ?_
  refine Or.inl ?_
  refine And.intro (rfl) ?_
  refine Exists.intro _ (And.intro (at_c es n m id) ?_)
  refine acode_seq ?_
  refine acode_seq ?_
  refine acode_region ?_
  refine acode_cond rfl (fun h11 => ?_) (fun h11 => ?_)
  ·try simp only [decide_eq_true_eq] at h11
   try simp only [Int.toNat_natCast, dflt_sl, dflt_st, dflt_str, dflt_int, dflt_bool] at h11
   rw [if_pos h11, decide_eq_false (show ¬ 0 ≤ atE es id by omega)]
   refine acode_seq ?_
   refine acode_region ?_
   refine acode_ret ?_
   rfl
  ·try simp only [decide_eq_false_iff_not, Int.not_lt] at h11
   try simp only [Int.toNat_natCast, dflt_sl, dflt_st, dflt_str, dflt_int, dflt_bool] at h11
   have h11' : ¬ atE es id < 0 := (by omega)
   obtain ⟨i, hi, he, _, _⟩ := at_lt h11'
   rw [if_neg h11', decide_eq_true (show 0 ≤ atE es id by omega)]
   unfold rawL
   rw [he]
   rw [Int.toNat_natCast]
   refine acode_skip ?_
   refine acode_seq ?_
   refine acode_region ?_
   refine And.intro (by first | omega | assumption | decide | (simp only []; omega) | (simp <;> omega)) ?_
   refine acode_ret ?_
   rfl
end Q
end Ab
end Go.Proofs.YtnimhpgacmojiaaGreatDoor
namespace Go.Proofs.YtnimhpgacmojiaaGreatDoor
open Go.RowKit
namespace Ab
set_option maxRecDepth 100000
namespace Q
theorem lDel_no (es : List Ent) (n m id : Int) (h : atE es id < 0) : ACallO Tryz.prog 28 [.one (.own 0 0), ii .i64 id] (lsO (es, n, m)) 2 (.one (errN 7)) (lsO (es, n, m)) 2 := by
  refine acallo_of (rs := [4]) Tryz.func28 rfl rfl rfl teOk (by decide) rfl ?_
  refine acode_seq ?_
  refine acode_region ?_
  refine acode_seq ?_
  refine acode_region ?_
  refine Or.inr (Or.inr (Or.inl ?_))
  refine And.intro rfl ?_
  refine Exists.intro _ (And.intro (at_c es n m id) ?_)
  refine acode_seq ?_
  refine acode_seq ?_
  refine acode_region ?_
  refine acode_cond rfl (fun h10 => ?_) (fun h10 => ?_)
  ·try simp only [decide_eq_true_eq] at h10
   try simp only [Int.toNat_natCast, dflt_sl, dflt_st, dflt_str, dflt_int, dflt_bool] at h10
   refine acode_seq ?_
   refine acode_region ?_
   refine acode_ret ?_
   exact ⟨rfl, ⟨rfl, rfl⟩, rfl⟩
  ·try simp only [decide_eq_false_iff_not, Int.not_lt] at h10
   try simp only [Int.toNat_natCast, dflt_sl, dflt_st, dflt_str, dflt_int, dflt_bool] at h10
   omega
theorem lDel_ok (es : List Ent) (n m id : Int) (i : Nat) (hi : i < es.length) (h : atE es id = i) (hm : 0 ≤ m ∧ m ≤ 1000000) (hl : es.length ≤ 1000000) : ACallO Tryz.prog 28 [.one (.own 0 0), ii .i64 id] (lsO (es, n, m)) 2 (.one (.lit .nilIface)) (lsO (delE es i, n, m - 1)) 2 := by
  refine acallo_of (rs := [4]) Tryz.func28 rfl rfl rfl teOk (by decide) rfl ?_
  refine acode_seq ?_
  refine acode_region ?_
  refine acode_seq ?_
  refine acode_region ?_
  refine Or.inr (Or.inr (Or.inl ?_))
  refine And.intro rfl ?_
  refine Exists.intro _ (And.intro ((by have := at_c (k := 1) es n m id; rw [h] at this; exact this)) ?_)
  refine acode_seq ?_
  refine acode_seq ?_
  refine acode_region ?_
  refine acode_cond rfl (fun h10 => ?_) (fun h10 => ?_)
  ·try simp only [decide_eq_true_eq] at h10
   try simp only [Int.toNat_natCast, dflt_sl, dflt_st, dflt_str, dflt_int, dflt_bool] at h10
   omega
  ·try simp only [decide_eq_false_iff_not, Int.not_lt] at h10
   try simp only [Int.toNat_natCast, dflt_sl, dflt_st, dflt_str, dflt_int, dflt_bool] at h10
   refine acode_skip ?_
   refine acode_seq ?_
   refine acode_region ?_
   refine And.intro (by first | omega | assumption | decide | (simp only [Int.toNat_natCast, dflt_sl, dflt_st, dflt_str, dflt_int, dflt_bool]; omega) | (simp <;> omega)) ?_
   refine Or.inr (Or.inr (Or.inr (Exists.intro [1] (Exists.intro [] (Exists.intro _ (Exists.intro _ (Exists.intro _ (Exists.intro _ (Exists.intro _ (And.intro (delete_x es i (i + 1) (Nat.lt_succ_self _) hi) (And.intro rfl (And.intro (And.intro (And.intro rfl rfl) True.intro) (And.intro rfl ?_)))))))))))))
   refine acode_seq ?_
   refine acode_region ?_
   refine And.intro (by first | omega | assumption | decide | (simp only []; omega) | (simp <;> omega)) ?_
   refine acode_seq ?_
   refine acode_region ?_
   refine acode_ret ?_
   exact ⟨rfl, ⟨rfl, rfl⟩, rfl⟩
end Q
end Ab
end Go.Proofs.YtnimhpgacmojiaaGreatDoor
namespace Go.Proofs.YtnimhpgacmojiaaGreatDoor
open Go.RowKit
namespace Ab
set_option maxRecDepth 100000
namespace Q
theorem pitem_ok {κ : Nat} {l : List Fld} (hl : FldsOk l) (h : (chkR l).2 = 0) : ACall Tryz.prog 79 [.one (.slk κ rFld l)] (.tup [(true, toL rItm (3, bytes (foldL l), l)), (false, [.lit .nilIface])]) := by
  refine acall_ofc (rs := [.cell 2 71, .tmp 3]) Tryz.func79 rfl rfl rfl teOk rfl ?_
  refine acode_seq ?_
  refine acode_region ?_
  refine acode_seq ?_
  refine acode_region ?_
  refine Or.inl ?_
  refine And.intro (rfl) ?_
  refine Exists.intro _ (And.intro (pstanza_ok hl h) ?_)
  refine acode_seq ?_
  refine acode_seq ?_
  refine acode_region ?_
  refine acode_cond rfl (fun h12 => ?_) (fun h12 => ?_)
  ·try simp only [Bool.not_eq_true'] at h12
   try simp only [Int.toNat_natCast, dflt_sl, dflt_st, dflt_str, dflt_int, dflt_bool] at h12
   cases h12
  ·try simp only [Bool.not_eq_false'] at h12
   try simp only [Int.toNat_natCast, dflt_sl, dflt_st, dflt_str, dflt_int, dflt_bool] at h12
   refine acode_skip ?_
   refine acode_seq ?_
   refine acode_region ?_
   refine Or.inl ?_
   refine And.intro (rfl) ?_
   refine Exists.intro _ (And.intro (clone_c l (Nat.le_trans hl.1 (by decide))) ?_)
   refine acode_ret ?_
   rfl
theorem pitem_err {κ : Nat} {l : List Fld} (hl : FldsOk l) (h : (chkR l).2 ≠ 0) : ACall Tryz.prog 79 [.one (.slk κ rFld l)] (.tup [(true, [.lit (.int .i64 0), .lit (.string ⟨#[]⟩), .lit (.slice none 0 0)]), (false, [chkA l])]) := by
  have hc := pstanza_err (κ := κ) hl h
  obtain ⟨e, he, hs⟩ := chk_bad h
  rw [he] at hc ⊢
  rcases hs with ⟨n, hn, rfl, _⟩ | ⟨i, n, hn, rfl, _⟩
  ·
    refine acall_ofc (rs := [.cell 2 71, .tmp 3]) Tryz.func79 rfl rfl rfl teOk rfl ?_
    refine acode_seq ?_
    refine acode_region ?_
    refine acode_seq ?_
    refine acode_region ?_
    refine Or.inl ?_
    refine And.intro (rfl) ?_
    refine Exists.intro _ (And.intro (hc) ?_)
    refine acode_seq ?_
    refine acode_seq ?_
    refine acode_region ?_
    refine acode_cond rfl (fun h12 => ?_) (fun h12 => ?_)
    ·skip
     refine acode_seq ?_
     refine acode_region ?_
     refine acode_ret ?_
     rfl
    ·try simp only [decide_eq_true_eq, decide_eq_false_iff_not, Bool.and_eq_true, Bool.not_eq_true', Bool.not_eq_false', Bool.or_eq_false_iff, Bool.or_eq_true, Bool.and_eq_false_iff, Int.not_lt, Int.not_le] at h12
     try simp only [Int.toNat_natCast, dflt_sl, dflt_st, dflt_str, dflt_int, dflt_bool] at h12
     cases h12
  ·
    refine acall_ofc (rs := [.cell 2 71, .tmp 3]) Tryz.func79 rfl rfl rfl teOk rfl ?_
    refine acode_seq ?_
    refine acode_region ?_
    refine acode_seq ?_
    refine acode_region ?_
    refine Or.inl ?_
    refine And.intro (rfl) ?_
    refine Exists.intro _ (And.intro (hc) ?_)
    refine acode_seq ?_
    refine acode_seq ?_
    refine acode_region ?_
    refine acode_cond rfl (fun h12 => ?_) (fun h12 => ?_)
    ·skip
     refine acode_seq ?_
     refine acode_region ?_
     refine acode_ret ?_
     rfl
    ·try simp only [decide_eq_true_eq, decide_eq_false_iff_not, Bool.and_eq_true, Bool.not_eq_true', Bool.not_eq_false', Bool.or_eq_false_iff, Bool.or_eq_true, Bool.and_eq_false_iff, Int.not_lt, Int.not_le] at h12
     try simp only [Int.toNat_natCast, dflt_sl, dflt_st, dflt_str, dflt_int, dflt_bool] at h12
     cases h12
end Q
end Ab
end Go.Proofs.YtnimhpgacmojiaaGreatDoor
namespace Go.Proofs.YtnimhpgacmojiaaGreatDoor
open Go.RowKit
namespace Ab
set_option maxRecDepth 100000
namespace Q
def itmOf (f : List Fld) : Itm := (3, bytes (foldL f), f)
theorem lRep_no {κ : Nat} (es : List Ent) (n m id : Int) (f : List Fld) (h : atE es id < 0) : ACallO Tryz.prog 51 [.one (.own 0 0), ii .i64 id, .one (.slk κ rFld f)] (lsO (es, n, m)) 2 (.one (errN 7)) (lsO (es, n, m)) 2 := by
  refine acallo_of (rs := [6]) Tryz.func51 rfl rfl rfl teOk (by decide) rfl ?_
  refine acode_seq ?_
  refine acode_region ?_
  refine acode_seq ?_
  refine acode_region ?_
  refine Or.inr (Or.inr (Or.inl ?_))
  refine And.intro rfl ?_
  refine Exists.intro _ (And.intro (at_c es n m id) ?_)
  refine acode_seq ?_
  refine acode_seq ?_
  refine acode_region ?_
  refine acode_cond rfl (fun h14 => ?_) (fun h14 => ?_)
  ·try simp only [decide_eq_true_eq] at h14
   try simp only [Int.toNat_natCast, dflt_sl, dflt_st, dflt_str, dflt_int, dflt_bool] at h14
   refine acode_seq ?_
   refine acode_region ?_
   refine acode_ret ?_
   exact ⟨rfl, ⟨rfl, rfl⟩, rfl⟩
  ·try simp only [decide_eq_false_iff_not, Int.not_lt] at h14
   try simp only [Int.toNat_natCast, dflt_sl, dflt_st, dflt_str, dflt_int, dflt_bool] at h14
   omega
theorem lRep_bad {κ : Nat} (es : List Ent) (n m id : Int) (f : List Fld) (h : 0 ≤ atE es id) (hf : FldsOk f) (hc : (chkR f).2 ≠ 0) : ACallO Tryz.prog 51 [.one (.own 0 0), ii .i64 id, .one (.slk κ rFld f)] (lsO (es, n, m)) 2 (.one (chkA f)) (lsO (es, n, m)) 2 := by
  have hpi := pitem_err (κ := κ) hf hc
  obtain ⟨e, he, hs⟩ := chk_bad hc
  rw [he] at hpi ⊢
  rcases hs with ⟨x, hx, rfl, _⟩ | ⟨j, x, hx, rfl, _⟩
  ·
    refine acallo_of (rs := [6]) Tryz.func51 rfl rfl rfl teOk (by decide) rfl ?_
    refine acode_seq ?_
    refine acode_region ?_
    refine acode_seq ?_
    refine acode_region ?_
    refine Or.inr (Or.inr (Or.inl ?_))
    refine And.intro rfl ?_
    refine Exists.intro _ (And.intro (at_c es n m id) ?_)
    refine acode_seq ?_
    refine acode_seq ?_
    refine acode_region ?_
    refine acode_cond rfl (fun h14 => ?_) (fun h14 => ?_)
    ·try simp only [decide_eq_true_eq] at h14
     try simp only [Int.toNat_natCast, dflt_sl, dflt_st, dflt_str, dflt_int, dflt_bool] at h14
     omega
    ·try simp only [decide_eq_false_iff_not, Int.not_lt] at h14
     try simp only [Int.toNat_natCast, dflt_sl, dflt_st, dflt_str, dflt_int, dflt_bool] at h14
     refine acode_skip ?_
     refine acode_seq ?_
     refine acode_region ?_
     refine Or.inl ?_
     refine And.intro (rfl) ?_
     refine Exists.intro _ (And.intro (hpi) ?_)
     refine acode_seq ?_
     refine acode_seq ?_
     refine acode_region ?_
     refine acode_cond rfl (fun h22 => ?_) (fun h22 => ?_)
     ·skip
      refine acode_seq ?_
      refine acode_region ?_
      refine acode_ret ?_
      exact ⟨rfl, ⟨rfl, rfl⟩, rfl⟩
     ·try simp only [decide_eq_true_eq, decide_eq_false_iff_not, Bool.and_eq_true, Bool.not_eq_true', Bool.not_eq_false', Bool.or_eq_false_iff, Bool.or_eq_true, Bool.and_eq_false_iff, Int.not_lt, Int.not_le] at h22
      try simp only [Int.toNat_natCast, dflt_sl, dflt_st, dflt_str, dflt_int, dflt_bool] at h22
      cases h22
  ·
    refine acallo_of (rs := [6]) Tryz.func51 rfl rfl rfl teOk (by decide) rfl ?_
    refine acode_seq ?_
    refine acode_region ?_
    refine acode_seq ?_
    refine acode_region ?_
    refine Or.inr (Or.inr (Or.inl ?_))
    refine And.intro rfl ?_
    refine Exists.intro _ (And.intro (at_c es n m id) ?_)
    refine acode_seq ?_
    refine acode_seq ?_
    refine acode_region ?_
    refine acode_cond rfl (fun h14 => ?_) (fun h14 => ?_)
    ·try simp only [decide_eq_true_eq] at h14
     try simp only [Int.toNat_natCast, dflt_sl, dflt_st, dflt_str, dflt_int, dflt_bool] at h14
     omega
    ·try simp only [decide_eq_false_iff_not, Int.not_lt] at h14
     try simp only [Int.toNat_natCast, dflt_sl, dflt_st, dflt_str, dflt_int, dflt_bool] at h14
     refine acode_skip ?_
     refine acode_seq ?_
     refine acode_region ?_
     refine Or.inl ?_
     refine And.intro (rfl) ?_
     refine Exists.intro _ (And.intro (hpi) ?_)
     refine acode_seq ?_
     refine acode_seq ?_
     refine acode_region ?_
     refine acode_cond rfl (fun h22 => ?_) (fun h22 => ?_)
     ·skip
      refine acode_seq ?_
      refine acode_region ?_
      refine acode_ret ?_
      exact ⟨rfl, ⟨rfl, rfl⟩, rfl⟩
     ·try simp only [decide_eq_true_eq, decide_eq_false_iff_not, Bool.and_eq_true, Bool.not_eq_true', Bool.not_eq_false', Bool.or_eq_false_iff, Bool.or_eq_true, Bool.and_eq_false_iff, Int.not_lt, Int.not_le] at h22
      try simp only [Int.toNat_natCast, dflt_sl, dflt_st, dflt_str, dflt_int, dflt_bool] at h22
      cases h22
theorem lRep_ok {κ : Nat} (es : List Ent) (n m id : Int) (f : List Fld) (i : Nat) (hi : i < es.length) (h : atE es id = i) (hf : FldsOk f) (hc : (chkR f).2 = 0) : ACallO Tryz.prog 51 [.one (.own 0 0), ii .i64 id, .one (.slk κ rFld f)] (lsO (es, n, m)) 2 (.one (.lit .nilIface)) (lsO (replE es i (itmOf f), n, m)) 2 := by
  refine acallo_of (rs := [6]) Tryz.func51 rfl rfl rfl teOk (by decide) rfl ?_
  refine acode_seq ?_
  refine acode_region ?_
  refine acode_seq ?_
  refine acode_region ?_
  refine Or.inr (Or.inr (Or.inl ?_))
  refine And.intro rfl ?_
  refine Exists.intro _ (And.intro ((by have := at_c (k := 1) es n m id; rw [h] at this; exact this)) ?_)
  refine acode_seq ?_
  refine acode_seq ?_
  refine acode_region ?_
  refine acode_cond rfl (fun h14 => ?_) (fun h14 => ?_)
  ·try simp only [decide_eq_true_eq] at h14
   try simp only [Int.toNat_natCast, dflt_sl, dflt_st, dflt_str, dflt_int, dflt_bool] at h14
   omega
  ·try simp only [decide_eq_false_iff_not, Int.not_lt] at h14
   try simp only [Int.toNat_natCast, dflt_sl, dflt_st, dflt_str, dflt_int, dflt_bool] at h14
   refine acode_skip ?_
   refine acode_seq ?_
   refine acode_region ?_
   refine Or.inl ?_
   refine And.intro (rfl) ?_
   refine Exists.intro _ (And.intro (pitem_ok hf hc) ?_)
   refine acode_seq ?_
   refine acode_seq ?_
   refine acode_region ?_
   refine acode_cond rfl (fun h22 => ?_) (fun h22 => ?_)
   ·try simp only [Bool.not_eq_true'] at h22
    try simp only [Int.toNat_natCast, dflt_sl, dflt_st, dflt_str, dflt_int, dflt_bool] at h22
    cases h22
   ·try simp only [Bool.not_eq_false'] at h22
    try simp only [Int.toNat_natCast, dflt_sl, dflt_st, dflt_str, dflt_int, dflt_bool] at h22
    refine acode_skip ?_
    refine acode_seq ?_
    refine acode_ord rfl ?_
    refine aord_light 0 rfl rfl rfl (by kernel_rfl) ?_
    refine aord_light 1 rfl rfl rfl (by kernel_rfl) ?_
    refine aord_light 2 rfl rfl rfl (by kernel_rfl) ?_
    refine aord_light 4 rfl rfl rfl (by kernel_rfl) ?_
    refine aord_all [3, 5] (by kernel_rfl) rfl ?_
    refine And.intro ?_ ?_
    ·refine aord_all [5] (by kernel_rfl) rfl ?_
     refine aord_light 6 rfl rfl rfl (by kernel_rfl) ?_
     refine And.intro (by first | omega | assumption | decide | (simp only []; omega) | (simp <;> omega)) ?_
     refine aord_all [7] (by kernel_rfl) rfl ?_
     refine aord_all [8] (by kernel_rfl) rfl ?_
     refine And.intro (by (rw [Int.toNat_natCast]; exact hi)) ?_
     refine aord_done (by kernel_rfl) ?_
     refine acode_seq ?_
     refine acode_region ?_
     refine acode_ret ?_
     exact ⟨rfl, ⟨rfl, rfl⟩, rfl⟩
    ·refine aord_all [3] (by kernel_rfl) rfl ?_
     refine aord_light 6 rfl rfl rfl (by kernel_rfl) ?_
     refine And.intro (by first | omega | assumption | decide | (simp only []; omega) | (simp <;> omega)) ?_
     refine aord_all [7] (by kernel_rfl) rfl ?_
     refine aord_all [8] (by kernel_rfl) rfl ?_
     refine And.intro (by (rw [Int.toNat_natCast]; exact hi)) ?_
     refine aord_done (by kernel_rfl) ?_
     refine acode_seq ?_
     refine acode_region ?_
     refine acode_ret ?_
     exact ⟨rfl, ⟨rfl, rfl⟩, rfl⟩
end Q
end Ab
end Go.Proofs.YtnimhpgacmojiaaGreatDoor
namespace Go.Proofs.YtnimhpgacmojiaaGreatDoor
open Go.RowKit
namespace Ab
set_option maxRecDepth 100000
namespace Q
theorem lIns_no {κ : Nat} (es : List Ent) (n m id : Int) (f : List Fld) (h : atE es id < 0) (h0 : id ≠ 0) : ACallO Tryz.prog 43 [.one (.own 0 0), ii .i64 id, .one (.slk κ rFld f)] (lsO (es, n, m)) 2 (.tup [(false, [.lit (.int .i64 0)]), (false, [errN 7])]) (lsO (es, n, m)) 2 := by
  refine acallo_of (rs := [6, 7]) Tryz.func43 rfl rfl rfl teOk (by decide) rfl ?_
  refine acode_seq ?_
  refine acode_region ?_
  refine acode_seq ?_
  refine acode_region ?_
  refine Or.inr (Or.inr (Or.inl ?_))
  refine And.intro rfl ?_
  refine Exists.intro _ (And.intro (at_c es n m id) ?_)
  refine acode_seq ?_
  refine acode_seq ?_
  refine acode_region ?_
  refine And.intro (fun h => trivial) ?_
  refine And.intro (fun h => ⟨⟨h, trivial⟩, trivial⟩) ?_
  refine And.intro (fun h => ⟨⟨h, trivial⟩, trivial⟩) ?_
  refine And.intro (fun h => trivial) ?_
  refine And.intro (fun h => ⟨⟨h, trivial⟩, trivial⟩) ?_
  refine And.intro (fun h => ⟨⟨⟨h, trivial⟩, trivial⟩, by first | exact fun h2 => h2 | (intro h2; rw [h, h2]; rfl) | (intro h2; cases h2) | (intro h2; simp_all [gq])⟩) ?_
  refine And.intro (by first | (intro h; rw [h]; rfl) | (intro h; cases h)) ?_
  refine acode_cond rfl (fun h24 => ?_) (fun h24 => ?_)
  ·try simp only [decide_eq_true_eq, decide_eq_false_iff_not, Bool.and_eq_true, Bool.not_eq_true', Bool.or_eq_true] at h24
   try simp only [Int.toNat_natCast, dflt_sl, dflt_st, dflt_str, dflt_int, dflt_bool] at h24
   refine acode_seq ?_
   refine acode_region ?_
   refine acode_ret ?_
   exact ⟨rfl, ⟨rfl, rfl⟩, rfl⟩
  ·try simp only [decide_eq_true_eq, decide_eq_false_iff_not, Bool.not_eq_false', Bool.or_eq_false_iff, Bool.and_eq_false_iff, Int.not_lt] at h24
   try simp only [Int.toNat_natCast, dflt_sl, dflt_st, dflt_str, dflt_int, dflt_bool] at h24
   simp at h24
   omega
theorem lIns_bad {κ : Nat} (es : List Ent) (n m id : Int) (f : List Fld) (h : ¬ (atE es id < 0 ∧ id ≠ 0)) (hf : FldsOk f) (hc : (chkR f).2 ≠ 0) : ACallO Tryz.prog 43 [.one (.own 0 0), ii .i64 id, .one (.slk κ rFld f)] (lsO (es, n, m)) 2 (.tup [(false, [.lit (.int .i64 0)]), (false, [chkA f])]) (lsO (es, n, m)) 2 := by
  have hpi := pitem_err (κ := κ) hf hc
  obtain ⟨e, he, hs⟩ := chk_bad hc
  rw [he] at hpi ⊢
  rcases hs with ⟨x, hx, rfl, _⟩ | ⟨j, x, hx, rfl, _⟩
  ·
    refine acallo_of (rs := [6, 7]) Tryz.func43 rfl rfl rfl teOk (by decide) rfl ?_
    refine acode_seq ?_
    refine acode_region ?_
    refine acode_seq ?_
    refine acode_region ?_
    refine Or.inr (Or.inr (Or.inl ?_))
    refine And.intro rfl ?_
    refine Exists.intro _ (And.intro (at_c es n m id) ?_)
    refine acode_seq ?_
    refine acode_seq ?_
    refine acode_region ?_
    refine And.intro (fun h => trivial) ?_
    refine And.intro (fun h => ⟨⟨h, trivial⟩, trivial⟩) ?_
    refine And.intro (fun h => ⟨⟨h, trivial⟩, trivial⟩) ?_
    refine And.intro (fun h => trivial) ?_
    refine And.intro (fun h => ⟨⟨h, trivial⟩, trivial⟩) ?_
    refine And.intro (fun h => ⟨⟨⟨h, trivial⟩, trivial⟩, by first | exact fun h2 => h2 | (intro h2; rw [h, h2]; rfl) | (intro h2; cases h2) | (intro h2; simp_all [gq])⟩) ?_
    refine And.intro (by first | (intro h; rw [h]; rfl) | (intro h; cases h)) ?_
    refine acode_cond rfl (fun h24 => ?_) (fun h24 => ?_)
    ·try simp only [decide_eq_true_eq, decide_eq_false_iff_not, Bool.and_eq_true, Bool.not_eq_true', Bool.or_eq_true] at h24
     try simp only [Int.toNat_natCast, dflt_sl, dflt_st, dflt_str, dflt_int, dflt_bool] at h24
     exact absurd (by simpa using h24) h
    ·try simp only [decide_eq_true_eq, decide_eq_false_iff_not, Bool.not_eq_false', Bool.or_eq_false_iff, Bool.and_eq_false_iff, Int.not_lt] at h24
     try simp only [Int.toNat_natCast, dflt_sl, dflt_st, dflt_str, dflt_int, dflt_bool] at h24
     refine acode_skip ?_
     refine acode_seq ?_
     refine acode_region ?_
     refine Or.inl ?_
     refine And.intro (rfl) ?_
     refine Exists.intro _ (And.intro (hpi) ?_)
     refine acode_seq ?_
     refine acode_block ?_
     refine acode_seq ?_
     refine acode_region ?_
     refine acode_cond rfl (fun h31 => ?_) (fun h31 => ?_)
     ·skip
      refine acode_seq ?_
      refine acode_region ?_
      refine acode_ret ?_
      exact ⟨rfl, ⟨rfl, rfl⟩, rfl⟩
     ·try simp only [decide_eq_true_eq, decide_eq_false_iff_not, Bool.and_eq_true, Bool.not_eq_true', Bool.not_eq_false', Bool.or_eq_false_iff, Bool.or_eq_true, Bool.and_eq_false_iff, Int.not_lt, Int.not_le] at h31
      try simp only [Int.toNat_natCast, dflt_sl, dflt_st, dflt_str, dflt_int, dflt_bool] at h31
      cases h31
  ·
    refine acallo_of (rs := [6, 7]) Tryz.func43 rfl rfl rfl teOk (by decide) rfl ?_
    refine acode_seq ?_
    refine acode_region ?_
    refine acode_seq ?_
    refine acode_region ?_
    refine Or.inr (Or.inr (Or.inl ?_))
    refine And.intro rfl ?_
    refine Exists.intro _ (And.intro (at_c es n m id) ?_)
    refine acode_seq ?_
    refine acode_seq ?_
    refine acode_region ?_
    refine And.intro (fun h => trivial) ?_
    refine And.intro (fun h => ⟨⟨h, trivial⟩, trivial⟩) ?_
    refine And.intro (fun h => ⟨⟨h, trivial⟩, trivial⟩) ?_
    refine And.intro (fun h => trivial) ?_
    refine And.intro (fun h => ⟨⟨h, trivial⟩, trivial⟩) ?_
    refine And.intro (fun h => ⟨⟨⟨h, trivial⟩, trivial⟩, by first | exact fun h2 => h2 | (intro h2; rw [h, h2]; rfl) | (intro h2; cases h2) | (intro h2; simp_all [gq])⟩) ?_
    refine And.intro (by first | (intro h; rw [h]; rfl) | (intro h; cases h)) ?_
    refine acode_cond rfl (fun h24 => ?_) (fun h24 => ?_)
    ·try simp only [decide_eq_true_eq, decide_eq_false_iff_not, Bool.and_eq_true, Bool.not_eq_true', Bool.or_eq_true] at h24
     try simp only [Int.toNat_natCast, dflt_sl, dflt_st, dflt_str, dflt_int, dflt_bool] at h24
     exact absurd (by simpa using h24) h
    ·try simp only [decide_eq_true_eq, decide_eq_false_iff_not, Bool.not_eq_false', Bool.or_eq_false_iff, Bool.and_eq_false_iff, Int.not_lt] at h24
     try simp only [Int.toNat_natCast, dflt_sl, dflt_st, dflt_str, dflt_int, dflt_bool] at h24
     refine acode_skip ?_
     refine acode_seq ?_
     refine acode_region ?_
     refine Or.inl ?_
     refine And.intro (rfl) ?_
     refine Exists.intro _ (And.intro (hpi) ?_)
     refine acode_seq ?_
     refine acode_block ?_
     refine acode_seq ?_
     refine acode_region ?_
     refine acode_cond rfl (fun h31 => ?_) (fun h31 => ?_)
     ·skip
      refine acode_seq ?_
      refine acode_region ?_
      refine acode_ret ?_
      exact ⟨rfl, ⟨rfl, rfl⟩, rfl⟩
     ·try simp only [decide_eq_true_eq, decide_eq_false_iff_not, Bool.and_eq_true, Bool.not_eq_true', Bool.not_eq_false', Bool.or_eq_false_iff, Bool.or_eq_true, Bool.and_eq_false_iff, Int.not_lt, Int.not_le] at h31
      try simp only [Int.toNat_natCast, dflt_sl, dflt_st, dflt_str, dflt_int, dflt_bool] at h31
      cases h31
theorem lIns_full {κ : Nat} (es : List Ent) (n m id : Int) (f : List Fld) (h : ¬ (atE es id < 0 ∧ id ≠ 0)) (hf : FldsOk f) (hc : (chkR f).2 = 0) (hm : 400 ≤ m) : ACallO Tryz.prog 43 [.one (.own 0 0), ii .i64 id, .one (.slk κ rFld f)] (lsO (es, n, m)) 2 (.tup [(false, [.lit (.int .i64 0)]), (false, [errN 11])]) (lsO (es, n, m)) 2 := by
  refine acallo_of (rs := [6, 7]) Tryz.func43 rfl rfl rfl teOk (by decide) rfl ?_
  refine acode_seq ?_
  refine acode_region ?_
  refine acode_seq ?_
  refine acode_region ?_
  refine Or.inr (Or.inr (Or.inl ?_))
  refine And.intro rfl ?_
  refine Exists.intro _ (And.intro (at_c es n m id) ?_)
  refine acode_seq ?_
  refine acode_seq ?_
  refine acode_region ?_
  refine And.intro (fun h => trivial) ?_
  refine And.intro (fun h => ⟨⟨h, trivial⟩, trivial⟩) ?_
  refine And.intro (fun h => ⟨⟨h, trivial⟩, trivial⟩) ?_
  refine And.intro (fun h => trivial) ?_
  refine And.intro (fun h => ⟨⟨h, trivial⟩, trivial⟩) ?_
  refine And.intro (fun h => ⟨⟨⟨h, trivial⟩, trivial⟩, by first | exact fun h2 => h2 | (intro h2; rw [h, h2]; rfl) | (intro h2; cases h2) | (intro h2; simp_all [gq])⟩) ?_
  refine And.intro (by first | (intro h; rw [h]; rfl) | (intro h; cases h)) ?_
  refine acode_cond rfl (fun h24 => ?_) (fun h24 => ?_)
  ·try simp only [decide_eq_true_eq, decide_eq_false_iff_not, Bool.and_eq_true, Bool.not_eq_true', Bool.or_eq_true] at h24
   try simp only [Int.toNat_natCast, dflt_sl, dflt_st, dflt_str, dflt_int, dflt_bool] at h24
   exact absurd (by simpa using h24) h
  ·try simp only [decide_eq_true_eq, decide_eq_false_iff_not, Bool.not_eq_false', Bool.or_eq_false_iff, Bool.and_eq_false_iff, Int.not_lt] at h24
   try simp only [Int.toNat_natCast, dflt_sl, dflt_st, dflt_str, dflt_int, dflt_bool] at h24
   refine acode_skip ?_
   refine acode_seq ?_
   refine acode_region ?_
   refine Or.inl ?_
   refine And.intro (rfl) ?_
   refine Exists.intro _ (And.intro (pitem_ok hf hc) ?_)
   refine acode_seq ?_
   refine acode_block ?_
   refine acode_seq ?_
   refine acode_region ?_
   refine acode_cond rfl (fun h31 => ?_) (fun h31 => ?_)
   ·try simp only [Bool.not_eq_true'] at h31
    try simp only [Int.toNat_natCast, dflt_sl, dflt_st, dflt_str, dflt_int, dflt_bool] at h31
    cases h31
   ·try simp only [Bool.not_eq_false'] at h31
    try simp only [Int.toNat_natCast, dflt_sl, dflt_st, dflt_str, dflt_int, dflt_bool] at h31
    refine acode_seq ?_
    refine acode_region ?_
    refine acode_cond rfl (fun h35 => ?_) (fun h35 => ?_)
    ·try simp only [decide_eq_true_eq] at h35
     try simp only [Int.toNat_natCast, dflt_sl, dflt_st, dflt_str, dflt_int, dflt_bool] at h35
     refine acode_seq ?_
     refine acode_region ?_
     refine acode_ret ?_
     exact ⟨rfl, ⟨rfl, rfl⟩, rfl⟩
    ·try simp only [decide_eq_false_iff_not, Int.not_le] at h35
     try simp only [Int.toNat_natCast, dflt_sl, dflt_st, dflt_str, dflt_int, dflt_bool] at h35
     omega
theorem lIns_ok {κ : Nat} (es : List Ent) (n m id : Int) (f : List Fld) (j : Nat) (hj : j ≤ es.length) (h : ¬ (atE es id < 0 ∧ id ≠ 0)) (ha : atE es id + 1 = (j : Int)) (hf : FldsOk f) (hc : (chkR f).2 = 0) (hm : 0 ≤ m ∧ m < 400) (hn : 0 ≤ n ∧ n ≤ 1000000000) (hl : es.length ≤ 1000000) : ACallO Tryz.prog 43 [.one (.own 0 0), ii .i64 id, .one (.slk κ rFld f)] (lsO (es, n, m)) 2 (.tup [(false, [.lit (.int .i64 n)]), (false, [.lit .nilIface])]) (lsO (insE es j (itmOf f, n), n + 1, m + 1)) 2 := by
  have hins := insert_x es (itmOf f, n) j hj hl
  rw [← ha] at hins
  refine acallo_of (rs := [6, 7]) Tryz.func43 rfl rfl rfl teOk (by decide) rfl ?_
  refine acode_seq ?_
  refine acode_region ?_
  refine acode_seq ?_
  refine acode_region ?_
  refine Or.inr (Or.inr (Or.inl ?_))
  refine And.intro rfl ?_
  refine Exists.intro _ (And.intro (at_c es n m id) ?_)
  refine acode_seq ?_
  refine acode_seq ?_
  refine acode_region ?_
  refine And.intro (fun h => trivial) ?_
  refine And.intro (fun h => ⟨⟨h, trivial⟩, trivial⟩) ?_
  refine And.intro (fun h => ⟨⟨h, trivial⟩, trivial⟩) ?_
  refine And.intro (fun h => trivial) ?_
  refine And.intro (fun h => ⟨⟨h, trivial⟩, trivial⟩) ?_
  refine And.intro (fun h => ⟨⟨⟨h, trivial⟩, trivial⟩, by first | exact fun h2 => h2 | (intro h2; rw [h, h2]; rfl) | (intro h2; cases h2) | (intro h2; simp_all [gq])⟩) ?_
  refine And.intro (by first | (intro h; rw [h]; rfl) | (intro h; cases h)) ?_
  refine acode_cond rfl (fun h24 => ?_) (fun h24 => ?_)
  ·try simp only [decide_eq_true_eq, decide_eq_false_iff_not, Bool.and_eq_true, Bool.not_eq_true', Bool.or_eq_true] at h24
   try simp only [Int.toNat_natCast, dflt_sl, dflt_st, dflt_str, dflt_int, dflt_bool] at h24
   exact absurd (by simpa using h24) h
  ·try simp only [decide_eq_true_eq, decide_eq_false_iff_not, Bool.not_eq_false', Bool.or_eq_false_iff, Bool.and_eq_false_iff, Int.not_lt] at h24
   try simp only [Int.toNat_natCast, dflt_sl, dflt_st, dflt_str, dflt_int, dflt_bool] at h24
   refine acode_skip ?_
   refine acode_seq ?_
   refine acode_region ?_
   refine Or.inl ?_
   refine And.intro (rfl) ?_
   refine Exists.intro _ (And.intro (pitem_ok hf hc) ?_)
   refine acode_seq ?_
   refine acode_block ?_
   refine acode_seq ?_
   refine acode_region ?_
   refine acode_cond rfl (fun h31 => ?_) (fun h31 => ?_)
   ·try simp only [Bool.not_eq_true'] at h31
    try simp only [Int.toNat_natCast, dflt_sl, dflt_st, dflt_str, dflt_int, dflt_bool] at h31
    cases h31
   ·try simp only [Bool.not_eq_false'] at h31
    try simp only [Int.toNat_natCast, dflt_sl, dflt_st, dflt_str, dflt_int, dflt_bool] at h31
    refine acode_seq ?_
    refine acode_region ?_
    refine acode_cond rfl (fun h35 => ?_) (fun h35 => ?_)
    ·try simp only [decide_eq_true_eq] at h35
     try simp only [Int.toNat_natCast, dflt_sl, dflt_st, dflt_str, dflt_int, dflt_bool] at h35
     omega
    ·try simp only [decide_eq_false_iff_not, Int.not_le] at h35
     try simp only [Int.toNat_natCast, dflt_sl, dflt_st, dflt_str, dflt_int, dflt_bool] at h35
     refine acode_skip ?_
     refine acode_seq ?_
     refine acode_region ?_
     refine acode_seq ?_
     refine acode_ord rfl ?_
     refine aord_light 0 rfl rfl rfl (by kernel_rfl) ?_
     refine aord_light 1 rfl rfl rfl (by kernel_rfl) ?_
     refine aord_light 2 rfl rfl rfl (by kernel_rfl) ?_
     refine aord_light 3 rfl rfl rfl (by kernel_rfl) ?_
     refine aord_light 5 rfl rfl rfl (by kernel_rfl) ?_
     refine aord_light 6 rfl rfl rfl (by kernel_rfl) ?_
     refine And.intro (by first | omega | assumption | decide | (simp only [Int.toNat_natCast, dflt_sl, dflt_st, dflt_str, dflt_int, dflt_bool]; omega) | (simp <;> omega)) ?_
     refine aord_light 8 rfl rfl rfl (by kernel_rfl) ?_
     refine aord_all [4, 7] (by kernel_rfl) rfl ?_
     refine And.intro ?_ ?_
     ·refine aord_all [7] (by kernel_rfl) rfl ?_
      refine aord_all [9] (by kernel_rfl) rfl ?_
      refine aord_all [10] (by kernel_rfl) rfl ?_
      refine aord_all [11] (by kernel_rfl) rfl ?_
      refine Or.inr (Or.inr (Or.inr (Exists.intro [1, 3] (Exists.intro [] (Exists.intro _ (Exists.intro _ (Exists.intro _ (Exists.intro _ (Exists.intro _ (And.intro (hins) (And.intro rfl (And.intro (And.intro (And.intro rfl rfl) (And.intro (And.intro rfl rfl) True.intro)) (And.intro rfl ?_)))))))))))))
      refine aord_light 12 rfl rfl rfl (by kernel_rfl) ?_
      refine aord_light 13 rfl rfl rfl (by kernel_rfl) ?_
      refine aord_all [14] (by kernel_rfl) rfl ?_
      refine aord_done (by kernel_rfl) ?_
      refine acode_seq ?_
      refine acode_region ?_
      refine And.intro (by first | omega | assumption | decide | (simp only []; omega) | (simp <;> omega)) ?_
      refine acode_seq ?_
      refine acode_region ?_
      refine And.intro (by first | omega | assumption | decide | (simp only []; omega) | (simp <;> omega)) ?_
      refine acode_seq ?_
      refine acode_region ?_
      refine acode_ret ?_
      exact ⟨rfl, ⟨rfl, rfl⟩, rfl⟩
     ·refine aord_all [4, 9] (by kernel_rfl) rfl ?_
      refine And.intro ?_ ?_
      ·refine aord_all [9] (by kernel_rfl) rfl ?_
       refine aord_all [10] (by kernel_rfl) rfl ?_
       refine aord_all [11] (by kernel_rfl) rfl ?_
       refine Or.inr (Or.inr (Or.inr (Exists.intro [1, 3] (Exists.intro [] (Exists.intro _ (Exists.intro _ (Exists.intro _ (Exists.intro _ (Exists.intro _ (And.intro (hins) (And.intro rfl (And.intro (And.intro (And.intro rfl rfl) (And.intro (And.intro rfl rfl) True.intro)) (And.intro rfl ?_)))))))))))))
       refine aord_light 12 rfl rfl rfl (by kernel_rfl) ?_
       refine aord_light 13 rfl rfl rfl (by kernel_rfl) ?_
       refine aord_all [14] (by kernel_rfl) rfl ?_
       refine aord_done (by kernel_rfl) ?_
       refine acode_seq ?_
       refine acode_region ?_
       refine And.intro (by first | omega | assumption | decide | (simp only []; omega) | (simp <;> omega)) ?_
       refine acode_seq ?_
       refine acode_region ?_
       refine And.intro (by first | omega | assumption | decide | (simp only []; omega) | (simp <;> omega)) ?_
       refine acode_seq ?_
       refine acode_region ?_
       refine acode_ret ?_
       exact ⟨rfl, ⟨rfl, rfl⟩, rfl⟩
      ·refine aord_all [4, 10] (by kernel_rfl) rfl ?_
       refine And.intro ?_ ?_
       ·refine aord_all [10] (by kernel_rfl) rfl ?_
        refine aord_all [11] (by kernel_rfl) rfl ?_
        refine Or.inr (Or.inr (Or.inr (Exists.intro [1, 3] (Exists.intro [] (Exists.intro _ (Exists.intro _ (Exists.intro _ (Exists.intro _ (Exists.intro _ (And.intro (hins) (And.intro rfl (And.intro (And.intro (And.intro rfl rfl) (And.intro (And.intro rfl rfl) True.intro)) (And.intro rfl ?_)))))))))))))
        refine aord_light 12 rfl rfl rfl (by kernel_rfl) ?_
        refine aord_light 13 rfl rfl rfl (by kernel_rfl) ?_
        refine aord_all [14] (by kernel_rfl) rfl ?_
        refine aord_done (by kernel_rfl) ?_
        refine acode_seq ?_
        refine acode_region ?_
        refine And.intro (by first | omega | assumption | decide | (simp only []; omega) | (simp <;> omega)) ?_
        refine acode_seq ?_
        refine acode_region ?_
        refine And.intro (by first | omega | assumption | decide | (simp only []; omega) | (simp <;> omega)) ?_
        refine acode_seq ?_
        refine acode_region ?_
        refine acode_ret ?_
        exact ⟨rfl, ⟨rfl, rfl⟩, rfl⟩
       ·refine aord_all [4] (by kernel_rfl) rfl ?_
        refine aord_all [11] (by kernel_rfl) rfl ?_
        refine Or.inr (Or.inr (Or.inr (Exists.intro [1, 3] (Exists.intro [] (Exists.intro _ (Exists.intro _ (Exists.intro _ (Exists.intro _ (Exists.intro _ (And.intro (hins) (And.intro rfl (And.intro (And.intro (And.intro rfl rfl) (And.intro (And.intro rfl rfl) True.intro)) (And.intro rfl ?_)))))))))))))
        refine aord_light 12 rfl rfl rfl (by kernel_rfl) ?_
        refine aord_light 13 rfl rfl rfl (by kernel_rfl) ?_
        refine aord_all [14] (by kernel_rfl) rfl ?_
        refine aord_done (by kernel_rfl) ?_
        refine acode_seq ?_
        refine acode_region ?_
        refine And.intro (by first | omega | assumption | decide | (simp only []; omega) | (simp <;> omega)) ?_
        refine acode_seq ?_
        refine acode_region ?_
        refine And.intro (by first | omega | assumption | decide | (simp only []; omega) | (simp <;> omega)) ?_
        refine acode_seq ?_
        refine acode_region ?_
        refine acode_ret ?_
        exact ⟨rfl, ⟨rfl, rfl⟩, rfl⟩
end Q
end Ab
end Go.Proofs.YtnimhpgacmojiaaGreatDoor
namespace Go.Proofs.YtnimhpgacmojiaaGreatDoor
open Go.RowKit
namespace Ab
set_option maxRecDepth 100000
abbrev Edt := Int × Int × List Fld
abbrev rEdt : Rd Edt := .st (.int .i64) (.st (.int .i64) (.sl rFld))
namespace Q
def heavyB (l : List Edt) : Bool := decide (51 < l.length) || l.any fun e => muchB e.2.2
theorem heavy_c (l : List Edt) : ACall Tryz.prog 33 [.one (.sl rEdt l)] (ib (heavyB l)) := by
  refine acall_of (rs := [2]) Tryz.func33 rfl rfl rfl teOk rfl ?_
  refine acode_seq ?_
  refine acode_region ?_
  refine acode_seq ?_
  refine acode_seq ?_
  refine acode_region ?_
  intro l1_1
  try simp only [Int.toNat_natCast, dflt_sl, dflt_st, dflt_str, dflt_int, dflt_bool] at l1_1
  refine acode_block ?_
  refine acode_loopP (fun (i : Nat) => i ≤ l.length ∧ i ≤ 51 ∧ (l.take i).any (fun e => muchB e.2.2) = false) (fun (i : Nat) => [(5, .one (.sl rEdt l)), (6, ii .i64 l.length), (7, ii .i64 i)]) (fun (i : Nat) => []) 0 (fun (i : Nat) => l.length - i) 0 (⟨Nat.zero_le _, Nat.zero_le _, rfl⟩) (le_of ⟨rfl, rfl, rfl⟩ trivial rfl) ?_
  intro i hI0
  obtain ⟨hi, hi2, hn⟩ := hI0
  refine acode_seq ?_
  refine acode_region ?_
  refine acode_seq ?_
  refine acode_cond rfl (fun h8 => ?_) (fun h8 => ?_)
  ·try simp only [decide_eq_true_eq] at h8
   try simp only [Int.toNat_natCast, dflt_sl, dflt_st, dflt_str, dflt_int, dflt_bool] at h8
   have hil : i < l.length := (by omega)
   have hsn := take_any l (fun e : Edt => muchB e.2.2) ((0 : Int), (0 : Int), ([] : List Fld)) i hil
   rw [hn, Bool.false_or] at hsn
   refine acode_skip ?_
   refine acode_seq ?_
   refine acode_block ?_
   refine acode_seq ?_
   refine acode_region ?_
   refine And.intro (by first | omega | assumption | decide | (simp only [Int.toNat_natCast, dflt_sl, dflt_st, dflt_str, dflt_int, dflt_bool]; omega) | (simp <;> omega)) ?_
   refine acode_seq ?_
   refine acode_region ?_
   refine And.intro (fun h => trivial) ?_
   refine And.intro (fun h => ⟨⟨h, trivial⟩, trivial⟩) ?_
   refine Or.inl ?_
   refine And.intro (rfl) ?_
   refine Exists.intro _ (And.intro (fun h => ⟨⟨⟨h, trivial⟩, trivial⟩, much_c _⟩) ?_)
   refine And.intro (by first | (intro h; rw [h]; rfl) | (intro h; cases h)) ?_
   refine acode_cond rfl (fun h18 => ?_) (fun h18 => ?_)
   ·try simp only [decide_eq_true_eq, Bool.or_eq_true] at h18
    try simp only [Int.toNat_natCast, dflt_sl, dflt_st, dflt_int] at h18
    refine acode_seq ?_
    refine acode_region ?_
    refine acode_ret ?_
    refine ib_eq (Eq.symm ?_)
    unfold heavyB
    rcases h18 with h | h
    rw [decide_eq_true (show 51 < l.length by omega)]
    rfl
    rw [show l.any (fun e : Edt => muchB e.2.2) = true from List.any_eq_true.2 ⟨_, getD_mem hil ((0 : Int), (0 : Int), ([] : List Fld)), h⟩, Bool.or_true]
   ·try simp only [decide_eq_false_iff_not, Bool.or_eq_false_iff, Int.not_lt] at h18
    try simp only [Int.toNat_natCast, dflt_sl, dflt_st, dflt_int] at h18
    refine acode_skip ?_
    refine acode_region ?_
    refine And.intro (by first | omega | assumption | decide | (simp only [Int.toNat_natCast, dflt_sl, dflt_st, dflt_str, dflt_int, dflt_bool]; omega) | (simp <;> omega)) ?_
    exact ⟨i + 1, ⟨by omega, by omega, by rw [hsn]; exact h18.2⟩, by first | omega | (simp <;> omega), le_of ⟨rfl, rfl, (ii_eq (by omega))⟩ trivial rfl⟩
  ·try simp only [decide_eq_false_iff_not, Int.not_lt] at h8
   try simp only [Int.toNat_natCast, dflt_sl, dflt_st, dflt_str, dflt_int, dflt_bool] at h8
   refine acode_exit ?_
   refine acode_seq ?_
   refine acode_region ?_
   refine acode_ret ?_
   rw [List.take_of_length_le (by omega)] at hn
   refine ib_eq (Eq.symm ?_)
   unfold heavyB
   rw [hn, decide_eq_false (by omega)]
   rfl
theorem copiesF_o (l : List Fld) (hl : l.length ≤ 1000000) : ACallO Tryz.prog 71 [.one (.sl rFld l)] [] 0 (.one (.vec 0)) [(0, .vec 91 rFld l)] 1 := by
  refine acallo_of (rs := [2]) Tryz.func71 rfl rfl rfl teOk (by decide) rfl ?_
  refine acode_seq ?_
  refine acode_region ?_
  refine acode_seq ?_
  refine acode_region ?_
  refine And.intro (by first | exact app_le (by first | omega | (simp only [List.length_nil]; omega) | (simp; omega)) (by decide) | omega | assumption | decide | (simp only [Int.toNat_natCast, dflt_sl, dflt_st, dflt_str, dflt_int, dflt_bool]; omega) | (simp <;> omega)) ?_
  refine acode_ret ?_
  exact ⟨rfl, rfl, rfl⟩
def spF : Fld := (⟨#[115, 112, 111, 105, 108, 116]⟩, ⟨#[115, 112, 111, 105, 108, 116]⟩)
theorem sp_len (l : List Fld) {i : Nat} (h : i ≤ l.length) : (List.replicate i spF ++ l.drop i).length = l.length := by
  rw [List.length_append, List.length_replicate, List.length_drop]
  omega
theorem sp_step (l : List Fld) {i : Nat} (h : i < l.length) : (List.replicate i spF ++ l.drop i).set i spF = List.replicate (i + 1) spF ++ l.drop (i + 1) := by
  rw [List.set_append_right _ _ (by simp), List.length_replicate, Nat.sub_self, List.drop_eq_getElem_cons h, List.set_cons_zero, List.replicate_succ', List.append_assoc]
  rfl
theorem spoilF_o (l : List Fld) (hl : l.length ≤ 1000000) : ACallO Tryz.prog 58 [.one (.vec 0)] [(0, .vec 91 rFld l)] 1 (.tup []) [(0, .vec 91 rFld (List.replicate l.length spF))] 1 := by
  refine acallo_of (rs := []) Tryz.func58 rfl rfl rfl teOk (by decide) rfl ?_
  refine acode_seq ?_
  refine acode_region ?_
  intro l0_1
  try simp only [Int.toNat_natCast, dflt_sl, dflt_st, dflt_str, dflt_int, dflt_bool] at l0_1
  refine acode_block ?_
  refine acode_loopP (fun (i : Nat) => i ≤ l.length) (fun (i : Nat) => [(0, .one (.vec 0)), (4, ii .i64 l.length), (5, ii .i64 i)]) (fun (i : Nat) => [(0, .vec 91 rFld (List.replicate i spF ++ l.drop i))]) 1 (fun (i : Nat) => l.length - i) 0 (Nat.zero_le _) (le_of ⟨rfl, rfl, rfl⟩ rfl rfl) ?_
  intro i hI0
  refine acode_seq ?_
  refine acode_region ?_
  refine acode_seq ?_
  refine acode_cond rfl (fun h6 => ?_) (fun h6 => ?_)
  ·try simp only [decide_eq_true_eq] at h6
   try simp only [Int.toNat_natCast, dflt_sl, dflt_st, dflt_str, dflt_int, dflt_bool] at h6
   have hil : i < l.length := (by omega)
   have hst := sp_step l hil
   have hsl := sp_len l (Nat.le_of_lt hil)
   refine acode_skip ?_
   refine acode_seq ?_
   refine acode_block ?_
   refine acode_seq ?_
   refine acode_region ?_
   refine acode_region ?_
   refine And.intro (by (first | (constructor <;> (rw [hsl]; omega)) | (rw [hsl]; omega) | omega)) ?_
   refine And.intro (by (first | (rw [Int.toNat_natCast, hsl]; exact hil) | (rw [hsl]; exact hil))) ?_
   refine acode_region ?_
   refine And.intro (by first | omega | assumption | decide | (simp only [Int.toNat_natCast, dflt_sl, dflt_st, dflt_str, dflt_int, dflt_bool]; omega) | (simp <;> omega)) ?_
   exact ⟨i + 1, by omega, by first | omega | (simp <;> omega), le_of ⟨rfl, rfl, (ii_eq (by omega))⟩ (vec_eq hst) rfl⟩
  ·try simp only [decide_eq_false_iff_not, Int.not_lt] at h6
   try simp only [Int.toNat_natCast, dflt_sl, dflt_st, dflt_str, dflt_int, dflt_bool] at h6
   refine acode_exit ?_
   exact ⟨rfl, vec_eq (by rw [show i = l.length by omega, List.drop_length, List.append_nil]), rfl⟩
theorem fieldsk_c {κ : Nat} (a b : List Fld) : ACall Tryz.prog 27 [.one (.slk κ rFld a), .one (.sl rFld b)] (ib (decide (a = b))) := by
  refine acall_of (rs := [4]) Tryz.func27 rfl rfl rfl teOk rfl ?_
  refine acode_seq ?_
  refine acode_region ?_
  refine acode_seq ?_
  refine acode_seq ?_
  refine acode_region ?_
  intro l1_1
  try simp only [Int.toNat_natCast, dflt_sl, dflt_st, dflt_str, dflt_int, dflt_bool] at l1_1
  intro l1_3
  try simp only [Int.toNat_natCast, dflt_sl, dflt_st, dflt_str, dflt_int, dflt_bool] at l1_3
  refine acode_cond rfl (fun h10 => ?_) (fun h10 => ?_)
  ·try simp only [decide_eq_false_iff_not, Bool.not_eq_true'] at h10
   try simp only [Int.toNat_natCast, dflt_sl, dflt_st, dflt_str, dflt_int, dflt_bool] at h10
   refine acode_seq ?_
   refine acode_region ?_
   refine acode_ret ?_
   exact ib_eq (decide_eq_false (fun e => by rw [e] at h10; omega)).symm
  ·try simp only [decide_eq_true_eq, Bool.not_eq_false'] at h10
   try simp only [Int.toNat_natCast, dflt_sl, dflt_st, dflt_str, dflt_int, dflt_bool] at h10
   refine acode_skip ?_
   refine acode_seq ?_
   refine acode_seq ?_
   refine acode_region ?_
   intro l3_1
   try simp only [Int.toNat_natCast, dflt_sl, dflt_st, dflt_str, dflt_int, dflt_bool] at l3_1
   refine acode_block ?_
   refine acode_loopP (fun (i : Nat) => i ≤ a.length ∧ a.take i = b.take i) (fun (i : Nat) => [(0, .one (.slk κ rFld a)), (1, .one (.sl rFld b)), (12, ii .i64 a.length), (13, ii .i64 i)]) (fun (i : Nat) => []) 0 (fun (i : Nat) => a.length - i) 0 (⟨Nat.zero_le _, by simp⟩) (le_of ⟨rfl, rfl, rfl, rfl⟩ trivial rfl) ?_
   intro i hI0
   obtain ⟨hi, ht⟩ := hI0
   refine acode_seq ?_
   refine acode_region ?_
   refine acode_seq ?_
   refine acode_cond rfl (fun h14 => ?_) (fun h14 => ?_)
   ·try simp only [decide_eq_true_eq] at h14
    try simp only [Int.toNat_natCast, dflt_sl, dflt_st, dflt_str, dflt_int, dflt_bool] at h14
    have hla : i < a.length := by omega
    have hlb : i < b.length := by omega
    refine acode_skip ?_
    refine acode_seq ?_
    refine acode_block ?_
    refine acode_seq ?_
    refine acode_region ?_
    refine acode_seq ?_
    refine acode_draw rfl (by kernel_rfl) ?_
    refine And.intro (by first | omega | assumption | decide | (simp only [Int.toNat_natCast, dflt_sl, dflt_st, dflt_str, dflt_int, dflt_bool]; omega) | (simp <;> omega)) ?_
    refine And.intro (by first | omega | assumption | decide | (simp only [Int.toNat_natCast, dflt_sl, dflt_st, dflt_str, dflt_int, dflt_bool]; omega) | (simp <;> omega)) ?_
    refine And.intro (by rfl) ?_
    refine acode_cond rfl (fun h24 => ?_) (fun h24 => ?_)
    ·try simp only [decide_eq_false_iff_not, Bool.not_eq_true', Bool.and_eq_false_iff] at h24
     try simp only [Int.toNat_natCast, dflt_st, dflt_str] at h24
     refine acode_seq ?_
     refine acode_region ?_
     refine acode_ret ?_
     exact ib_eq (decide_eq_false (ne_at (i := i) (ByteArray.empty, ByteArray.empty) (fun e => h24.elim (fun h => h (congrArg Prod.fst e)) (fun h => h (congrArg Prod.snd e))))).symm
    ·try simp only [decide_eq_true_eq, Bool.and_eq_true, Bool.not_eq_false'] at h24
     try simp only [Int.toNat_natCast, dflt_st, dflt_str] at h24
     refine acode_skip ?_
     refine acode_region ?_
     refine And.intro (by first | omega | assumption | decide | (simp only [Int.toNat_natCast, dflt_sl, dflt_st, dflt_str, dflt_int, dflt_bool]; omega) | (simp <;> omega)) ?_
     exact ⟨i + 1, ⟨by omega, list_ext_take (ByteArray.empty, ByteArray.empty) hla hlb ht (Prod.ext h24.1 h24.2)⟩, by first | omega | (simp <;> omega), le_of ⟨rfl, rfl, rfl, (ii_eq (by omega))⟩ trivial rfl⟩
   ·try simp only [decide_eq_false_iff_not, Int.not_lt] at h14
    try simp only [Int.toNat_natCast, dflt_sl, dflt_st, dflt_str, dflt_int, dflt_bool] at h14
    refine acode_exit ?_
    refine acode_seq ?_
    refine acode_region ?_
    refine acode_ret ?_
    exact ib_eq (decide_eq_true (by rw [List.take_of_length_le (by omega), List.take_of_length_le (by omega)] at ht; exact ht)).symm
end Q
end Ab
end Go.Proofs.YtnimhpgacmojiaaGreatDoor
namespace Go.Proofs.YtnimhpgacmojiaaGreatDoor
open Go.RowKit
namespace Ab
set_option maxRecDepth 100000
namespace Q
def stT (es : List Ent) (i : Nat) : List Stz := ((es.filter live).take i).map stzOf
end Q
end Ab
end Go.Proofs.YtnimhpgacmojiaaGreatDoor
namespace Go.Proofs.YtnimhpgacmojiaaGreatDoor
open Go.RowKit
namespace Ab
set_option maxRecDepth 100000
namespace Q
def SmallF (l : List Fld) : Prop := ∀ f ∈ l, f.1.size ≤ 1000 ∧ f.2.size ≤ 1000
structure GP (p : PSt) : Prop where
  flds : SmallF p.flds
  room : p.lns ≠ [] → p.full = false → p.flds.length < 40
  len : p.flds.length ≤ 40
  its : ∀ x ∈ p.its, SmallF x.2.2 ∧ x.2.2.length ≤ 40
theorem smallF_nil : SmallF [] := fun f hf => by cases hf
theorem flush_gp {p q : PSt} (h : GP p) (hf : flushS p = .inr q) : GP q := by
  unfold flushS at hf
  split at hf
  · cases hf; exact h
  · rename_i h0
    split at hf
    · cases hf
    · split at hf
      · cases hf
      · rename_i h1 h2
        cases hf
        have hr := h.room h0 (by simpa using h2)
        refine ⟨fun f hf => ?_, fun h => absurd rfl h, by simp only [List.length_append, List.length_cons, List.length_nil]; omega, h.its⟩
        rcases List.mem_append.1 hf with hf | hf
        · exact h.flds f hf
        · rw [List.mem_singleton.1 hf]
          rcases unf_cases (p.lns.map ls) with ⟨n, hn, e⟩ | ⟨k, v, e, hk, hv⟩
          · rw [e]; exact ⟨by show (bytes []).size ≤ 1000; decide, by show (bytes []).size ≤ 1000; decide⟩
          · rw [e]
            simp only [bytes_size]
            refine ⟨?_, hv⟩
            unfold keyOk at hk
            simp only [Bool.and_eq_true, decide_eq_true_eq] at hk
            omega
theorem close_gp {q : PSt} (h : GP q) : GP (closeS q) := by
  unfold closeS
  split
  · exact ⟨smallF_nil, fun _ _ => (by show 0 < 40; decide), (by show 0 ≤ 40; decide), h.its⟩
  · refine ⟨smallF_nil, fun _ _ => (by show 0 < 40; decide), (by show 0 ≤ 40; decide), fun x hx => ?_⟩
    rcases List.mem_append.1 hx with hx | hx
    · exact h.its x hx
    · rw [List.mem_singleton.1 hx]
      exact ⟨h.flds, h.len⟩
theorem end_gp {p q : PSt} (h : GP p) (hf : endS p = .inr q) : GP q := by
  unfold endS at hf
  split at hf
  · cases hf
  · rename_i r e
    cases hf
    exact close_gp (flush_gp h e)
theorem begin_gp {p : PSt} (l : Lne) (h : GP p) : GP (beginS p l) := by
  refine ⟨h.flds, fun _ hf => ?_, h.len, h.its⟩
  have := h.len
  unfold beginS at hf
  simp only [Bool.or_eq_false_iff, decide_eq_false_iff_not] at hf
  show p.flds.length < 40
  omega
theorem ahead_gp {p q : PSt} {l : Lne} {k : Int} (h : GP p) (hf : aheadS p l k = .inr q) : GP q := by
  unfold aheadS at hf
  split at hf
  · split at hf
    · cases hf
    · rename_i h0
      have h2 : GP { p with lns := p.lns ++ [l.2.2.1] } := ⟨h.flds, fun _ => h.room h0, h.len, h.its⟩
      split at hf
      · cases hf; exact h2
      · exact flush_gp h2 hf
  · split at hf
    · exact end_gp h hf
    · exact flush_gp h hf
theorem line_gp {p q : PSt} {l : Lne} {k : Int} (h : GP p) (hf : lineS p l k = .inr q) : GP q := by
  unfold lineS at hf
  split at hf
  · cases hf
  · split at hf
    · cases hf
      refine ⟨h.flds, h.room, h.len, fun x hx => ?_⟩
      rcases List.mem_append.1 hx with hx | hx
      · exact h.its x hx
      · rw [List.mem_singleton.1 hx]
        exact ⟨smallF_nil, by show 0 ≤ 40; decide⟩
    · split at hf
      · cases hf
        have := begin_gp l h
        exact ⟨this.flds, this.room, this.len, this.its⟩
      · cases hf
        exact ⟨h.flds, h.room, h.len, h.its⟩
theorem take_gp {p q : PSt} {l : Lne} (h : GP p) (hf : takeS p l = .inr q) : GP q := by
  unfold takeS at hf
  split at hf
  · cases hf
  · rename_i r e
    exact line_gp (ahead_gp h e) hf
theorem run_gp : ∀ (L : List Lne) {p q : PSt}, GP p → runS p L = .inr q → GP q
  | [], p, q, h, hf => by
    cases hf; exact h
  | l :: r, p, q, h, hf => by
    unfold runS at hf
    split at hf
    · cases hf
    · rename_i t e
      exact run_gp r (take_gp h e) hf
theorem items_small {s : ByteArray} {l : List Itm} (hp : parseS s = .inr l) : ∀ x ∈ l, SmallF x.2.2 ∧ x.2.2.length ≤ 40 := by
  unfold parseS at hp
  split at hp
  · cases hp
  · rename_i p e
    split at hp
    · cases hp
    · rename_i q e2
      cases hp
      exact (end_gp (run_gp _ ⟨smallF_nil, fun h => absurd rfl h, by decide, fun x hx => by cases hx⟩ e) e2).its
theorem fldsOk_of {l : List Fld} (h : SmallF l) (hl : l.length ≤ 40) : FldsOk l := ⟨by omega, fun f hf => by have := h f hf; omega⟩
end Q
end Ab
end Go.Proofs.YtnimhpgacmojiaaGreatDoor
namespace Go.Proofs.YtnimhpgacmojiaaGreatDoor
open Go.RowKit
namespace Ab
set_option maxRecDepth 100000
namespace Q
abbrev RLs := List Ent × Int
abbrev rRL : Rd RLs := .st (.sl rEnt) (.int .i64)
end Q
end Ab
end Go.Proofs.YtnimhpgacmojiaaGreatDoor
namespace Go.Proofs.YtnimhpgacmojiaaGreatDoor
open Go.RowKit
namespace Ab
set_option maxRecDepth 100000
namespace Q
def doL (L : Lst) (e : Edt) : Lst :=
  if e.1 = 1 then
    if atE L.1 e.2.1 < 0 then L else if (chkR e.2.2).2 ≠ 0 then L else (replE L.1 (atE L.1 e.2.1).toNat (itmOf e.2.2), L.2)
  else if e.1 = 2 then
    if atE L.1 e.2.1 < 0 then L else (delE L.1 (atE L.1 e.2.1).toNat, L.2.1, L.2.2 - 1)
  else if atE L.1 e.2.1 < 0 ∧ e.2.1 ≠ 0 then L else if (chkR e.2.2).2 ≠ 0 then L else if 400 ≤ L.2.2 then L else
    (insE L.1 (atE L.1 e.2.1 + 1).toNat (itmOf e.2.2, L.2.1), L.2.1 + 1, L.2.2 + 1)
def refRep (M : RLs) (id : Int) (f : List Fld) : RLs × Int × Int :=
  if atE M.1 id < 0 then (M, -9, 7) else if (chkR f).2 ≠ 0 then (M, (chkR f).1, (chkR f).2) else ((replE M.1 (atE M.1 id).toNat (itmOf f), M.2), -9, 0)
def refDel (M : RLs) (id : Int) : RLs × Int :=
  if atE M.1 id < 0 then (M, 7) else ((delE M.1 (atE M.1 id).toNat, M.2), 0)
def refIns (M : RLs) (id : Int) (f : List Fld) : RLs × Int × Int × Int :=
  if atE M.1 id < 0 ∧ id ≠ 0 then (M, 0, -9, 7) else if (chkR f).2 ≠ 0 then (M, 0, (chkR f).1, (chkR f).2) else if 400 ≤ ((M.1.filter live).length : Int) then (M, 0, -9, 11) else
    ((insE M.1 (atE M.1 id + 1).toNat (itmOf f, M.2), M.2 + 1), M.2, -9, 0)
def posI (n : Int) : Bool := decide (0 < n)
def nmsL (es : List Ent) : List Int := (es.map (·.2)).filter posI
theorem ids_eq (es : List Ent) : (es.filter live).map (·.2) = nmsL es := by
  unfold nmsL
  rw [List.filter_map]
  rfl
theorem ids_len (es : List Ent) : (nmsL es).length = (es.filter live).length := by rw [← ids_eq, List.length_map]
structure LOk (c : Nat) (L : Lst) : Prop where
  flds : ∀ e ∈ L.1, FldsOk e.1.2.2
  ids : ∀ e ∈ L.1, 0 ≤ e.2 ∧ e.2 < L.2.1
  nd : (nmsL L.1).Nodup
  many : L.2.2 = ((nmsL L.1).length : Int)
  next : 1 ≤ L.2.1 ∧ L.2.1 ≤ c
  len : L.1.length ≤ c
theorem ids_repl (es : List Ent) (i : Nat) (x : Itm) (h : i < es.length) : (replE es i x).map (·.2) = es.map (·.2) := by
  apply List.ext_getElem
  · simp [replE]
  · intro j h1 h2
    simp only [replE, List.getElem_map, List.getElem_set]
    split
    · rename_i e
      subst e
      simp only
      rw [List.getD_eq_getElem?_getD, List.getElem?_eq_getElem h]; rfl
    · rfl
theorem mem_repl {es : List Ent} {i : Nat} {x : Itm} {e : Ent} (h : e ∈ replE es i x) : e ∈ es ∨ e = (x, (es.getD i (((0 : Int), ByteArray.empty, ([] : List Fld)), (0 : Int))).2) := List.mem_or_eq_of_mem_set h
theorem del_split {es : List Ent} {i : Nat} (h : i < es.length) : es = es.take i ++ (es.getD i (((0 : Int), ByteArray.empty, ([] : List Fld)), (0 : Int))) :: es.drop (i + 1) := by
  conv => lhs; rw [← List.take_append_drop i es, List.drop_eq_getElem_cons h]
  rw [List.getD_eq_getElem?_getD, List.getElem?_eq_getElem h]; rfl
theorem mem_del {es : List Ent} {i : Nat} {e : Ent} (h : e ∈ delE es i) : e ∈ es := by
  rcases List.mem_append.1 h with h | h
  · exact List.mem_of_mem_take h
  · exact List.mem_of_mem_drop h
theorem ids_app (a b : List Ent) : nmsL (a ++ b) = nmsL a ++ nmsL b := by unfold nmsL; rw [List.map_append, List.filter_append]
theorem ids_cons (e : Ent) (b : List Ent) : nmsL (e :: b) = if 0 < e.2 then e.2 :: nmsL b else nmsL b := by
  unfold nmsL
  rw [List.map_cons, List.filter_cons]
  unfold posI
  by_cases h : 0 < e.2
  · rw [if_pos h, if_pos (decide_eq_true h)]
  · rw [if_neg h, if_neg (by simpa using h)]
theorem ids_del {es : List Ent} {i : Nat} (h : i < es.length) (hp : 0 < (es.getD i (((0 : Int), ByteArray.empty, ([] : List Fld)), (0 : Int))).2) : (nmsL es).length = (nmsL (delE es i)).length + 1 ∧ ((nmsL es).Nodup → (nmsL (delE es i)).Nodup) := by
  have e1 : nmsL es = nmsL (es.take i) ++ (es.getD i (((0 : Int), ByteArray.empty, ([] : List Fld)), (0 : Int))).2 :: nmsL (es.drop (i + 1)) := by
    conv => lhs; rw [del_split h, ids_app, ids_cons, if_pos hp]
  have e2 : nmsL (delE es i) = nmsL (es.take i) ++ nmsL (es.drop (i + 1)) := ids_app _ _
  rw [e1, e2]
  refine ⟨by simp only [List.length_append, List.length_cons]; omega, fun hn => ?_⟩
  exact hn.sublist (List.Sublist.append_left (List.sublist_cons_self _ _) _)
theorem mem_ins {es : List Ent} {i : Nat} {x e : Ent} (h : e ∈ insE es i x) : e ∈ es ∨ e = x := by
  rcases List.mem_append.1 h with h | h
  · exact .inl (List.mem_of_mem_take h)
  · rcases List.mem_cons.1 h with h | h
    · exact .inr h
    · exact .inl (List.mem_of_mem_drop h)
theorem ids_ins {es : List Ent} {i : Nat} {x : Ent} (hp : 0 < x.2) (hlt : ∀ e ∈ es, e.2 < x.2) : (nmsL (insE es i x)).length = (nmsL es).length + 1 ∧ ((nmsL es).Nodup → (nmsL (insE es i x)).Nodup) := by
  have e1 : nmsL es = nmsL (es.take i) ++ nmsL (es.drop i) := by
    conv => lhs; rw [← List.take_append_drop i es, ids_app]
  have e2 : nmsL (insE es i x) = nmsL (es.take i) ++ x.2 :: nmsL (es.drop i) := by unfold insE; rw [ids_app, ids_cons, if_pos hp]
  have hno : x.2 ∉ nmsL es := fun h => by
    unfold nmsL at h
    obtain ⟨e, he, hx⟩ := List.mem_map.1 (List.mem_filter.1 h).1
    have := hlt e he
    omega
  rw [e1] at hno ⊢
  rw [e2]
  refine ⟨by simp only [List.length_append, List.length_cons]; omega, fun hn => ?_⟩
  rw [List.perm_middle.nodup_iff]
  exact List.nodup_cons.2 ⟨hno, hn⟩
theorem doL_ok {c : Nat} {L : Lst} {e : Edt} (h : LOk c L) (hf : FldsOk e.2.2) : LOk (c + 1) (doL L e) := by
  have h0 : LOk (c + 1) L := ⟨h.flds, h.ids, h.nd, h.many, ⟨h.next.1, by have := h.next.2; omega⟩, by have := h.len; omega⟩
  have hat : ∀ id, ¬ atE L.1 id < 0 → ∃ i : Nat, i < L.1.length ∧ atE L.1 id = i ∧ 0 < id ∧ (L.1.getD i (((0 : Int), ByteArray.empty, ([] : List Fld)), (0 : Int))).2 = id := fun id hn => by
    rcases at_cases L.1 id with ⟨h1, _⟩ | ⟨i, h1, h2, h3, h4, _⟩
    · omega
    · exact ⟨i, h1, h2, h3, h4⟩
  unfold doL
  split
  · split
    · exact h0
    · rename_i hn
      obtain ⟨i, hi, he, hp, hid⟩ := hat _ hn
      rw [he, Int.toNat_natCast]
      split
      · exact h0
      · have hids : nmsL (replE L.1 i (itmOf e.2.2)) = nmsL L.1 := by unfold nmsL; rw [ids_repl _ _ _ hi]
        refine ⟨fun x hx => ?_, fun x hx => ?_, by show (nmsL (replE L.1 i _)).Nodup; rw [hids]; exact h.nd, by show L.2.2 = ((nmsL (replE L.1 i _)).length : Int); rw [hids]; exact h.many, h0.next, ?_⟩
        · rcases mem_repl hx with hx | rfl
          · exact h.flds x hx
          · exact hf
        · rcases mem_repl hx with hx | rfl
          · exact h.ids x hx
          · show 0 ≤ (L.1.getD i (((0 : Int), ByteArray.empty, ([] : List Fld)), (0 : Int))).2 ∧ (L.1.getD i (((0 : Int), ByteArray.empty, ([] : List Fld)), (0 : Int))).2 < L.2.1
            exact h.ids _ (getD_mem hi (((0 : Int), ByteArray.empty, ([] : List Fld)), (0 : Int)))
        · show (replE L.1 i _).length ≤ c + 1
          unfold replE
          rw [List.length_set]
          exact h0.len
  · split
    · split
      · exact h0
      · rename_i hn
        obtain ⟨i, hi, he, hp, hid⟩ := hat _ hn
        rw [he, Int.toNat_natCast]
        obtain ⟨h1, h2⟩ := ids_del hi (by omega)
        refine ⟨fun x hx => h.flds x (mem_del hx), fun x hx => h.ids x (mem_del hx), h2 h.nd, ?_, h0.next, ?_⟩
        · show L.2.2 - 1 = ((nmsL (delE L.1 i)).length : Int)
          rw [h.many]
          omega
        · show (delE L.1 i).length ≤ c + 1
          have := h.len
          unfold delE
          rw [List.length_append, List.length_take, List.length_drop]
          omega
    · split
      · exact h0
      · rename_i hn
        split
        · exact h0
        · split
          · exact h0
          · have hnx := h.next
            obtain ⟨h1, h2⟩ := ids_ins (es := L.1) (i := (atE L.1 e.2.1 + 1).toNat) (x := (itmOf e.2.2, L.2.1)) (by show 0 < L.2.1; omega) (fun x hx => (h.ids x hx).2)
            refine ⟨fun x hx => ?_, fun x hx => ?_, h2 h.nd, ?_, ⟨by show 1 ≤ L.2.1 + 1; omega, by show L.2.1 + 1 ≤ ((c + 1 : Nat) : Int); omega⟩, ?_⟩
            · rcases mem_ins hx with hx | rfl
              · exact h.flds x hx
              · exact hf
            · show 0 ≤ x.2 ∧ x.2 < L.2.1 + 1
              rcases mem_ins hx with hx | rfl
              · have := h.ids x hx; omega
              · show 0 ≤ L.2.1 ∧ L.2.1 < L.2.1 + 1
                omega
            · show L.2.2 + 1 = _
              rw [h1, h.many]
              omega
            · have := h.len
              show (insE L.1 _ _).length ≤ c + 1
              unfold insE
              rw [List.length_append, List.length_cons, List.length_take, List.length_drop]
              omega
theorem ids_num : ∀ (l : List Itm) (n : Int), 1 ≤ n → nmsL (numI n l) = (List.range (cntR l)).map (fun k : Nat => n + (k : Int)) ∧ ∀ e ∈ numI n l, 0 ≤ e.2 ∧ e.2 < n + (cntR l : Int)
  | [], n, _ => ⟨rfl, fun e he => by cases he⟩
  | x :: r, n, hn => by
    unfold numI
    split
    · rename_i h
      obtain ⟨h1, h2⟩ := ids_num r (n + 1) (by omega)
      have hc : cntR (x :: r) = cntR r + 1 := by simp [cntR, h]
      rw [hc]
      refine ⟨?_, fun e he => ?_⟩
      · rw [ids_cons, if_pos (show 0 < n by omega), h1, List.range_succ_eq_map, List.map_cons, List.map_map]
        congr 1
        · simp
        · apply List.map_congr_left
          intro k _
          simp only [Function.comp]
          omega
      · rcases List.mem_cons.1 he with rfl | he
        · show 0 ≤ n ∧ n < _; omega
        · have := h2 e he; omega
    · rename_i h
      obtain ⟨h1, h2⟩ := ids_num r n hn
      have hc : cntR (x :: r) = cntR r := by simp [cntR, h]
      rw [hc]
      refine ⟨?_, fun e he => ?_⟩
      · rw [ids_cons, if_neg (show ¬ (0 : Int) < 0 by omega), h1]
      · rcases List.mem_cons.1 he with rfl | he
        · show 0 ≤ (0 : Int) ∧ (0 : Int) < _; omega
        · exact h2 e he
theorem ofT_ok {l : List Itm} {c : Nat} (hl : l.length < c) (hf : ∀ x ∈ l, FldsOk x.2.2) : LOk c (ofT l) := by
  obtain ⟨h1, h2⟩ := ids_num l 1 (Int.le_refl _)
  have h3 := List.length_filter_le isRec l
  have h4 : cntR l ≤ l.length := h3
  refine ⟨fun e he => ?_, h2, ?_, ?_, ⟨?_, ?_⟩, ?_⟩
  · have : e.1 ∈ (numI 1 l).map (·.1) := List.mem_map.2 ⟨e, he, rfl⟩
    rw [numI_items] at this
    exact hf _ this
  · show (nmsL (numI 1 l)).Nodup
    rw [h1]
    refine List.Pairwise.map _ ?_ List.nodup_range
    intro a b hab e
    apply hab
    omega
  · show (cntR l : Int) = _
    rw [show nmsL (ofT l).1 = _ from h1, List.length_map, List.length_range]
  · show 1 ≤ 1 + (cntR l : Int); omega
  · show 1 + (cntR l : Int) ≤ c; omega
  · show (numI 1 l).length ≤ c
    rw [numI_len]; omega
def refDo (M : RLs) (e : Edt) : RLs := if e.1 = 1 then (refRep M e.2.1 e.2.2).1 else if e.1 = 2 then (refDel M e.2.1).1 else (refIns M e.2.1 e.2.2).1
end Q
end Ab
end Go.Proofs.YtnimhpgacmojiaaGreatDoor
namespace Go.Proofs.YtnimhpgacmojiaaGreatDoor
open Go.RowKit
namespace Ab
set_option maxRecDepth 100000
namespace Q
theorem itmL_snoc {es : List Ent} {i : Nat} (h : i < es.length) : itmL (es.take (i + 1)) = itmL (es.take i) ++ [(es.getD i (((0 : Int), ByteArray.empty, ([] : List Fld)), (0 : Int))).1] := by
  unfold itmL
  rw [← take_snoc (((0 : Int), ByteArray.empty, ([] : List Fld)), (0 : Int)) h, List.map_append]
  rfl
theorem itmsL_c {k : Nat} (es : List Ent) (n m : Int) (hl : es.length ≤ 1000000) (hf : ∀ e ∈ es, e.1.2.2.length ≤ 1000000) : ACall Tryz.prog 38 [.one (.adk k (rLst k) (es, n, m))] (.one (.sl rItm (itmL es))) := by
  refine acall_of (rs := [2]) Tryz.func38 rfl rfl rfl teOk rfl ?_
  refine acode_seq ?_
  refine acode_region ?_
  refine acode_seq ?_
  refine acode_region ?_
  refine acode_seq ?_
  refine acode_seq ?_
  refine acode_region ?_
  refine acode_cond rfl (fun h8 => ?_) (fun h8 => ?_)
  ·try simp only [decide_eq_true_eq, decide_eq_false_iff_not, Bool.and_eq_true, Bool.not_eq_true', Bool.not_eq_false', Bool.or_eq_false_iff, Bool.or_eq_true, Bool.and_eq_false_iff, Int.not_lt, Int.not_le] at h8
   try simp only [Int.toNat_natCast, dflt_sl, dflt_st, dflt_str, dflt_int, dflt_bool] at h8
   simp at h8
  ·skip
   refine acode_skip ?_
   refine acode_seq ?_
   refine acode_seq ?_
   refine acode_nilvec 3 71 rItm rfl ?_
   refine acode_region ?_
   intro l4_4
   refine acode_block ?_
   refine acode_loopP (fun (i : Nat) => i ≤ es.length) (fun (i : Nat) => [(3, .one (.vec 0)), (12, .one (.slk k rEnt es)), (13, ii .i64 es.length), (14, ii .i64 i)]) (fun (i : Nat) => [(0, .vec 71 rItm (itmL (es.take i)))]) 1 (fun (i : Nat) => es.length - i) 0 (Nat.zero_le _) (le_of ⟨rfl, rfl, rfl, rfl⟩ rfl rfl) ?_
   intro i hI0
   refine acode_seq ?_
   refine acode_region ?_
   refine acode_seq ?_
   refine acode_cond rfl (fun h15 => ?_) (fun h15 => ?_)
   ·try simp only [decide_eq_true_eq] at h15
    try simp only [Int.toNat_natCast, dflt_sl, dflt_st, dflt_str, dflt_int, dflt_bool] at h15
    have hil : i < es.length := (by omega)
    have hsn := itmL_snoc hil
    refine acode_skip ?_
    refine acode_seq ?_
    refine acode_block ?_
    refine acode_seq ?_
    refine acode_region ?_
    refine And.intro (by first | omega | assumption | decide | (simp only [Int.toNat_natCast, dflt_sl, dflt_st, dflt_str, dflt_int, dflt_bool]; omega) | (simp <;> omega)) ?_
    refine acode_seq ?_
    refine acode_region ?_
    refine acode_seq ?_
    refine acode_region ?_
    refine Or.inl ?_
    refine And.intro (rfl) ?_
    refine Exists.intro _ (And.intro (clone_c (es.getD i (((0 : Int), ByteArray.empty, ([] : List Fld)), (0 : Int))).1.2.2 (hf _ (getD_mem hil (((0 : Int), ByteArray.empty, ([] : List Fld)), (0 : Int))))) ?_)
    refine acode_region ?_
    refine And.intro (by exact app_le (show (itmL (es.take i)).length + 1 ≤ 1000000000 by unfold itmL; rw [List.length_map, List.length_take]; omega) (by decide)) ?_
    refine acode_region ?_
    refine And.intro (by first | omega | assumption | decide | (simp only [Int.toNat_natCast, dflt_sl, dflt_st, dflt_str, dflt_int, dflt_bool]; omega) | (simp <;> omega)) ?_
    exact ⟨i + 1, by omega, by first | omega | (simp <;> omega), le_of ⟨rfl, rfl, rfl, (ii_eq (by omega))⟩ (vec_eq (by rw [hsn]; try exact rfl)) rfl⟩
   ·try simp only [decide_eq_false_iff_not, Int.not_lt] at h15
    try simp only [Int.toNat_natCast, dflt_sl, dflt_st, dflt_str, dflt_int, dflt_bool] at h15
    refine acode_exit ?_
    refine acode_seq ?_
    refine acode_region ?_
    refine acode_ret ?_
    rw [List.take_of_length_le (by omega)]
    exact rfl
theorem textL_c {k : Nat} (es : List Ent) (n m : Int) (hl : es.length ≤ 400000) (hf : ∀ e ∈ es, e.1.2.2.length ≤ 1000000) (hs : szI (apartL (itmL es)) ≤ 100000000) : ACall Tryz.prog 37 [.one (.adk k (rLst k) (es, n, m))] (is (bytes (txtL es))) := by
  have h1 : (itmL es).length ≤ 1000000 := by unfold itmL; rw [List.length_map]; omega
  have h2 : ∀ x ∈ itmL es, x.2.2.length ≤ 1000000 := fun x hx => by obtain ⟨e, he, rfl⟩ := List.mem_map.1 hx; exact hf e he
  have h3 : (apartL (itmL es)).length ≤ 1000000 := by
    have := apartK_len (itmL es) 1
    have h4 : (apartL (itmL es)).length ≤ 2 * (itmL es).length := this
    rw [show (itmL es).length = es.length from List.length_map _] at h4
    omega
  have hr := render_c (itmL es) (apartL (itmL es)) h3 hs (apart_c _ h1 h2)
  refine acall_of (rs := [2]) Tryz.func37 rfl rfl rfl teOk rfl ?_
  refine acode_seq ?_
  refine acode_region ?_
  refine acode_seq ?_
  refine acode_region ?_
  refine Or.inl ?_
  refine And.intro (rfl) ?_
  refine Exists.intro _ (And.intro (itmsL_c es n m (by omega) hf) ?_)
  refine Or.inl ?_
  refine And.intro (rfl) ?_
  refine Exists.intro _ (And.intro (hr) ?_)
  refine acode_ret ?_
  rfl
def prPl (es : List Ent) (id : Int) : Bool → Nat → Nat × Int → Prop
  | false, j, x => x.1 = j ∧ x.2 = 0 ∧ ((es.filter live).take x.1).any (hasId id) = false
  | true, _, x => x.2 = plcL es id
end Q
end Ab
end Go.Proofs.YtnimhpgacmojiaaGreatDoor
namespace Go.Proofs.YtnimhpgacmojiaaGreatDoor
open Go.RowKit
namespace Ab
set_option maxRecDepth 100000
namespace Q
theorem copyL_o {k : Nat} (es : List Ent) (n m : Int) (hl : es.length ≤ 1000000) : ACallO Tryz.prog 34 [.one (.adk k (rLst k) (es, n, m))] [] 0 (.one (.own 1 0)) [(1, .box 125 [.vec 0, .lit (.int .i64 n), .lit (.int .i64 m)]), (0, .vec 127 rEnt es)] 2 := by
  have hcl := cloneE_o (k := k) es hl
  refine acallo_of (rs := [2]) Tryz.func34 rfl rfl rfl teOk (by decide) rfl ?_
  refine acode_seq ?_
  refine acode_region ?_
  refine acode_seq ?_
  refine acode_seq ?_
  refine acode_region ?_
  refine acode_cond rfl (fun h4 => ?_) (fun h4 => ?_)
  ·try simp only [decide_eq_true_eq, decide_eq_false_iff_not, Bool.and_eq_true, Bool.not_eq_true', Bool.not_eq_false', Bool.or_eq_false_iff, Bool.or_eq_true, Bool.and_eq_false_iff, Int.not_lt, Int.not_le] at h4
   try simp only [Int.toNat_natCast, dflt_sl, dflt_st, dflt_str, dflt_int, dflt_bool] at h4
   simp at h4
  ·try simp only [decide_eq_true_eq, decide_eq_false_iff_not, Bool.and_eq_true, Bool.not_eq_true', Bool.not_eq_false', Bool.or_eq_false_iff, Bool.or_eq_true, Bool.and_eq_false_iff, Int.not_lt, Int.not_le] at h4
   try simp only [Int.toNat_natCast, dflt_sl, dflt_st, dflt_str, dflt_int, dflt_bool] at h4
   refine acode_skip ?_
   refine acode_seq ?_
   refine acode_ord rfl ?_
   refine aord_light 0 rfl rfl rfl (by kernel_rfl) ?_
   refine aord_light 1 rfl rfl rfl (by kernel_rfl) ?_
   refine aord_light 2 rfl rfl rfl (by kernel_rfl) ?_
   refine aord_light 5 rfl rfl rfl (by kernel_rfl) ?_
   refine aord_light 6 rfl rfl rfl (by kernel_rfl) ?_
   refine aord_light 7 rfl rfl rfl (by kernel_rfl) ?_
   refine aord_light 9 rfl rfl rfl (by kernel_rfl) ?_
   refine aord_light 10 rfl rfl rfl (by kernel_rfl) ?_
   refine aord_light 11 rfl rfl rfl (by kernel_rfl) ?_
   refine aord_all [3, 8, 12] (by kernel_rfl) rfl ?_
   refine And.intro ?_ ?_
   ·refine aord_all [4, 8, 12] (by kernel_rfl) rfl ?_
    refine And.intro ?_ ?_
    ·refine Or.inr (Or.inl (Exists.intro [] (Exists.intro [] (Exists.intro _ (Exists.intro _ (Exists.intro _ (Exists.intro _ (Exists.intro _ (And.intro (hcl) (And.intro rfl (And.intro True.intro (And.intro rfl ?_))))))))))))
     refine aord_all [8, 12] (by kernel_rfl) rfl ?_
     refine And.intro ?_ ?_
     ·refine aord_all [12] (by kernel_rfl) rfl ?_
      refine aord_all [13] (by kernel_rfl) rfl ?_
      refine aord_all [14] (by kernel_rfl) rfl ?_
      refine aord_light 15 rfl rfl rfl (by kernel_rfl) ?_
      refine aord_done (by kernel_rfl) ?_
      refine acode_ret ?_
      exact ⟨rfl, ⟨rfl, rfl⟩, rfl⟩
     ·refine aord_all [8] (by kernel_rfl) rfl ?_
      refine aord_all [13] (by kernel_rfl) rfl ?_
      refine aord_all [14] (by kernel_rfl) rfl ?_
      refine aord_light 15 rfl rfl rfl (by kernel_rfl) ?_
      refine aord_done (by kernel_rfl) ?_
      refine acode_ret ?_
      exact ⟨rfl, ⟨rfl, rfl⟩, rfl⟩
    refine And.intro ?_ ?_
    ·refine aord_all [4, 12] (by kernel_rfl) rfl ?_
     refine And.intro ?_ ?_
     ·refine Or.inr (Or.inl (Exists.intro [] (Exists.intro [] (Exists.intro _ (Exists.intro _ (Exists.intro _ (Exists.intro _ (Exists.intro _ (And.intro (hcl) (And.intro rfl (And.intro True.intro (And.intro rfl ?_))))))))))))
      refine aord_all [12] (by kernel_rfl) rfl ?_
      refine aord_all [13] (by kernel_rfl) rfl ?_
      refine aord_all [14] (by kernel_rfl) rfl ?_
      refine aord_light 15 rfl rfl rfl (by kernel_rfl) ?_
      refine aord_done (by kernel_rfl) ?_
      refine acode_ret ?_
      exact ⟨rfl, ⟨rfl, rfl⟩, rfl⟩
     ·refine aord_all [4] (by kernel_rfl) rfl ?_
      refine Or.inr (Or.inl (Exists.intro [] (Exists.intro [] (Exists.intro _ (Exists.intro _ (Exists.intro _ (Exists.intro _ (Exists.intro _ (And.intro (hcl) (And.intro rfl (And.intro True.intro (And.intro rfl ?_))))))))))))
      refine aord_all [13] (by kernel_rfl) rfl ?_
      refine aord_all [14] (by kernel_rfl) rfl ?_
      refine aord_light 15 rfl rfl rfl (by kernel_rfl) ?_
      refine aord_done (by kernel_rfl) ?_
      refine acode_ret ?_
      exact ⟨rfl, ⟨rfl, rfl⟩, rfl⟩
    ·refine aord_all [4, 8] (by kernel_rfl) rfl ?_
     refine And.intro ?_ ?_
     ·refine Or.inr (Or.inl (Exists.intro [] (Exists.intro [] (Exists.intro _ (Exists.intro _ (Exists.intro _ (Exists.intro _ (Exists.intro _ (And.intro (hcl) (And.intro rfl (And.intro True.intro (And.intro rfl ?_))))))))))))
      refine aord_all [8] (by kernel_rfl) rfl ?_
      refine aord_all [13] (by kernel_rfl) rfl ?_
      refine aord_all [14] (by kernel_rfl) rfl ?_
      refine aord_light 15 rfl rfl rfl (by kernel_rfl) ?_
      refine aord_done (by kernel_rfl) ?_
      refine acode_ret ?_
      exact ⟨rfl, ⟨rfl, rfl⟩, rfl⟩
     ·refine aord_all [4] (by kernel_rfl) rfl ?_
      refine Or.inr (Or.inl (Exists.intro [] (Exists.intro [] (Exists.intro _ (Exists.intro _ (Exists.intro _ (Exists.intro _ (Exists.intro _ (And.intro (hcl) (And.intro rfl (And.intro True.intro (And.intro rfl ?_))))))))))))
      refine aord_all [13] (by kernel_rfl) rfl ?_
      refine aord_all [14] (by kernel_rfl) rfl ?_
      refine aord_light 15 rfl rfl rfl (by kernel_rfl) ?_
      refine aord_done (by kernel_rfl) ?_
      refine acode_ret ?_
      exact ⟨rfl, ⟨rfl, rfl⟩, rfl⟩
   refine And.intro ?_ ?_
   ·refine aord_all [3, 12] (by kernel_rfl) rfl ?_
    refine And.intro ?_ ?_
    ·refine aord_all [4, 12] (by kernel_rfl) rfl ?_
     refine And.intro ?_ ?_
     ·refine Or.inr (Or.inl (Exists.intro [] (Exists.intro [] (Exists.intro _ (Exists.intro _ (Exists.intro _ (Exists.intro _ (Exists.intro _ (And.intro (hcl) (And.intro rfl (And.intro True.intro (And.intro rfl ?_))))))))))))
      refine aord_all [12] (by kernel_rfl) rfl ?_
      refine aord_all [13] (by kernel_rfl) rfl ?_
      refine aord_all [14] (by kernel_rfl) rfl ?_
      refine aord_light 15 rfl rfl rfl (by kernel_rfl) ?_
      refine aord_done (by kernel_rfl) ?_
      refine acode_ret ?_
      exact ⟨rfl, ⟨rfl, rfl⟩, rfl⟩
     ·refine aord_all [4] (by kernel_rfl) rfl ?_
      refine Or.inr (Or.inl (Exists.intro [] (Exists.intro [] (Exists.intro _ (Exists.intro _ (Exists.intro _ (Exists.intro _ (Exists.intro _ (And.intro (hcl) (And.intro rfl (And.intro True.intro (And.intro rfl ?_))))))))))))
      refine aord_all [13] (by kernel_rfl) rfl ?_
      refine aord_all [14] (by kernel_rfl) rfl ?_
      refine aord_light 15 rfl rfl rfl (by kernel_rfl) ?_
      refine aord_done (by kernel_rfl) ?_
      refine acode_ret ?_
      exact ⟨rfl, ⟨rfl, rfl⟩, rfl⟩
    ·refine aord_all [3] (by kernel_rfl) rfl ?_
     refine aord_all [4] (by kernel_rfl) rfl ?_
     refine Or.inr (Or.inl (Exists.intro [] (Exists.intro [] (Exists.intro _ (Exists.intro _ (Exists.intro _ (Exists.intro _ (Exists.intro _ (And.intro (hcl) (And.intro rfl (And.intro True.intro (And.intro rfl ?_))))))))))))
     refine aord_all [13] (by kernel_rfl) rfl ?_
     refine aord_all [14] (by kernel_rfl) rfl ?_
     refine aord_light 15 rfl rfl rfl (by kernel_rfl) ?_
     refine aord_done (by kernel_rfl) ?_
     refine acode_ret ?_
     exact ⟨rfl, ⟨rfl, rfl⟩, rfl⟩
   ·refine aord_all [3, 8] (by kernel_rfl) rfl ?_
    refine And.intro ?_ ?_
    ·refine aord_all [4, 8] (by kernel_rfl) rfl ?_
     refine And.intro ?_ ?_
     ·refine Or.inr (Or.inl (Exists.intro [] (Exists.intro [] (Exists.intro _ (Exists.intro _ (Exists.intro _ (Exists.intro _ (Exists.intro _ (And.intro (hcl) (And.intro rfl (And.intro True.intro (And.intro rfl ?_))))))))))))
      refine aord_all [8] (by kernel_rfl) rfl ?_
      refine aord_all [13] (by kernel_rfl) rfl ?_
      refine aord_all [14] (by kernel_rfl) rfl ?_
      refine aord_light 15 rfl rfl rfl (by kernel_rfl) ?_
      refine aord_done (by kernel_rfl) ?_
      refine acode_ret ?_
      exact ⟨rfl, ⟨rfl, rfl⟩, rfl⟩
     ·refine aord_all [4] (by kernel_rfl) rfl ?_
      refine Or.inr (Or.inl (Exists.intro [] (Exists.intro [] (Exists.intro _ (Exists.intro _ (Exists.intro _ (Exists.intro _ (Exists.intro _ (And.intro (hcl) (And.intro rfl (And.intro True.intro (And.intro rfl ?_))))))))))))
      refine aord_all [13] (by kernel_rfl) rfl ?_
      refine aord_all [14] (by kernel_rfl) rfl ?_
      refine aord_light 15 rfl rfl rfl (by kernel_rfl) ?_
      refine aord_done (by kernel_rfl) ?_
      refine acode_ret ?_
      exact ⟨rfl, ⟨rfl, rfl⟩, rfl⟩
    ·refine aord_all [3] (by kernel_rfl) rfl ?_
     refine aord_all [4] (by kernel_rfl) rfl ?_
     refine Or.inr (Or.inl (Exists.intro [] (Exists.intro [] (Exists.intro _ (Exists.intro _ (Exists.intro _ (Exists.intro _ (Exists.intro _ (And.intro (hcl) (And.intro rfl (And.intro True.intro (And.intro rfl ?_))))))))))))
     refine aord_all [13] (by kernel_rfl) rfl ?_
     refine aord_all [14] (by kernel_rfl) rfl ?_
     refine aord_light 15 rfl rfl rfl (by kernel_rfl) ?_
     refine aord_done (by kernel_rfl) ?_
     refine acode_ret ?_
     exact ⟨rfl, ⟨rfl, rfl⟩, rfl⟩
theorem refFindAt_c (es : List Ent) (n id : Int) : ACall Tryz.prog 86 [.agg (toL rRL (es, n)), ii .i64 id] (ii .i64 (atE es id)) := by
  refine acall_of (rs := [4]) Tryz.func86 rfl rfl rfl teOk rfl ?_
  refine acode_seq ?_
  refine acode_region ?_
  refine acode_seq ?_
  refine acode_seq ?_
  refine acode_region ?_
  refine acode_block ?_
  refine acode_loopP (fun (i : Nat) => i ≤ es.length ∧ (es.take i).any (hasId id) = false) (fun (i : Nat) => [(1, ii .i64 id), (2, .one (.own 0 0)), (5, ii .i64 i)]) (fun (i : Nat) => [(0, .box 63 (toL rRL (es, n)))]) 1 (fun (i : Nat) => es.length - i) 0 (⟨Nat.zero_le _, rfl⟩) (le_of ⟨rfl, rfl, rfl⟩ rfl rfl) ?_
  intro i hI0
  obtain ⟨hi, hn⟩ := hI0
  refine acode_seq ?_
  refine acode_seq ?_
  refine acode_region ?_
  intro l2_3
  try simp only [Int.toNat_natCast, dflt_sl, dflt_st, dflt_str, dflt_int, dflt_bool] at l2_3
  refine And.intro (fun h => trivial) ?_
  refine And.intro (fun h => ⟨⟨h, trivial⟩, trivial⟩) ?_
  refine And.intro (by exact fun h => h) ?_
  refine acode_cond rfl (fun h14 => ?_) (fun h14 => ?_)
  ·try simp only [decide_eq_true_eq, decide_eq_false_iff_not, Bool.and_eq_true, Bool.not_eq_true', Bool.not_eq_false', Bool.or_eq_false_iff, Bool.or_eq_true, Bool.and_eq_false_iff, Int.not_lt, Int.not_le] at h14
   try simp only [Int.toNat_natCast, dflt_sl, dflt_st, dflt_str, dflt_int, dflt_bool] at h14
   have hil : i < es.length := (by omega)
   have hid : ¬ id < 1 := (by omega)
   refine acode_skip ?_
   refine acode_seq ?_
   refine acode_block ?_
   refine acode_seq ?_
   refine acode_region ?_
   refine And.intro (by first | omega | assumption | decide | (simp only [Int.toNat_natCast, dflt_sl, dflt_st, dflt_str, dflt_int, dflt_bool]; omega) | (simp <;> omega)) ?_
   refine acode_cond rfl (fun h24 => ?_) (fun h24 => ?_)
   ·try simp only [decide_eq_true_eq, decide_eq_false_iff_not, Bool.and_eq_true, Bool.not_eq_true', Bool.not_eq_false', Bool.or_eq_false_iff, Bool.or_eq_true, Bool.and_eq_false_iff, Int.not_lt, Int.not_le] at h24
    try simp only [Int.toNat_natCast, dflt_sl, dflt_st, dflt_str, dflt_int, dflt_bool] at h24
    refine acode_seq ?_
    refine acode_region ?_
    refine acode_ret ?_
    exact ii_eq (by unfold atE; rw [if_neg hid]; exact (ixOf_at (((0 : Int), ByteArray.empty, ([] : List Fld)), (0 : Int)) hil hn (decide_eq_true h24)).symm)
   ·try simp only [decide_eq_true_eq, decide_eq_false_iff_not, Bool.and_eq_true, Bool.not_eq_true', Bool.not_eq_false', Bool.or_eq_false_iff, Bool.or_eq_true, Bool.and_eq_false_iff, Int.not_lt, Int.not_le] at h24
    try simp only [Int.toNat_natCast, dflt_sl, dflt_st, dflt_str, dflt_int, dflt_bool] at h24
    refine acode_skip ?_
    refine acode_region ?_
    refine And.intro (by first | omega | assumption | decide | (simp only [Int.toNat_natCast, dflt_sl, dflt_st, dflt_str, dflt_int, dflt_bool]; omega) | (simp <;> omega)) ?_
    exact ⟨i + 1, ⟨by omega, by rw [take_any es (hasId id) (((0 : Int), ByteArray.empty, ([] : List Fld)), (0 : Int)) i hil, hn]; exact decide_eq_false h24⟩, by first | omega | (simp <;> omega), le_of ⟨rfl, rfl, rfl⟩ rfl rfl⟩
  ·try simp only [decide_eq_true_eq, decide_eq_false_iff_not, Bool.and_eq_true, Bool.not_eq_true', Bool.not_eq_false', Bool.or_eq_false_iff, Bool.or_eq_true, Bool.and_eq_false_iff, Int.not_lt, Int.not_le] at h14
   try simp only [Int.toNat_natCast, dflt_sl, dflt_st, dflt_str, dflt_int, dflt_bool] at h14
   refine acode_exit ?_
   refine acode_seq ?_
   refine acode_region ?_
   refine acode_ret ?_
   by_cases hid : id < 1
   exact ii_eq (by unfold atE; rw [if_pos hid])
   have e : i = es.length := (by omega)
   subst e
   rw [List.take_length] at hn
   exact ii_eq (by unfold atE; rw [if_neg hid]; exact (ixOf_none hn).symm)
end Q
end Ab
end Go.Proofs.YtnimhpgacmojiaaGreatDoor
namespace Go.Proofs.YtnimhpgacmojiaaGreatDoor
open Go.RowKit
namespace Ab
set_option maxRecDepth 100000
namespace Q
theorem refChk_c (l : List Fld) (hl : FldsOk l) : ACall Tryz.prog 104 [.one (.sl rFld l)] (.tup [(false, [.lit (.int .i64 (chkR l).1)]), (false, [.lit (.int .i64 (chkR l).2)])]) := by
  have hln := hl.1
  refine acall_of (rs := [2, 3]) Tryz.func104 rfl rfl rfl teOk rfl ?_
  refine acode_seq ?_
  refine acode_region ?_
  refine acode_seq ?_
  refine acode_seq ?_
  refine acode_region ?_
  intro l1_1
  try simp only [Int.toNat_natCast, dflt_sl, dflt_st, dflt_str, dflt_int, dflt_bool] at l1_1
  refine acode_cond rfl (fun h8 => ?_) (fun h8 => ?_)
  ·try simp only [decide_eq_true_eq] at h8
   try simp only [Int.toNat_natCast, dflt_sl, dflt_st, dflt_str, dflt_int, dflt_bool] at h8
   refine acode_seq ?_
   refine acode_region ?_
   refine acode_ret ?_
   have e : chkR l = (-9, 2) := (by unfold chkR; rw [if_pos (List.eq_nil_of_length_eq_zero (by omega))])
   rw [e]
   rfl
  ·try simp only [decide_eq_false_iff_not] at h8
   try simp only [Int.toNat_natCast, dflt_sl, dflt_st, dflt_str, dflt_int, dflt_bool] at h8
   refine acode_skip ?_
   refine acode_seq ?_
   refine acode_seq ?_
   refine acode_region ?_
   intro l3_1
   try simp only [Int.toNat_natCast, dflt_sl, dflt_st, dflt_str, dflt_int, dflt_bool] at l3_1
   refine acode_cond rfl (fun h11 => ?_) (fun h11 => ?_)
   ·try simp only [decide_eq_true_eq] at h11
    try simp only [Int.toNat_natCast, dflt_sl, dflt_st, dflt_str, dflt_int, dflt_bool] at h11
    refine acode_seq ?_
    refine acode_region ?_
    refine acode_ret ?_
    have e : chkR l = (-9, 11) := (by unfold chkR; rw [if_neg (fun e => h8 (by rw [e]; rfl)), if_pos (by omega)])
    rw [e]
    rfl
   ·try simp only [decide_eq_false_iff_not, Int.not_lt] at h11
    try simp only [Int.toNat_natCast, dflt_sl, dflt_st, dflt_str, dflt_int, dflt_bool] at h11
    refine acode_skip ?_
    refine acode_seq ?_
    refine acode_seq ?_
    refine acode_region ?_
    refine acode_block ?_
    refine acode_loopP (fun (i : Nat) => i ≤ l.length ∧ ∀ f ∈ l.take i, checkF f = 0) (fun (i : Nat) => [(0, .one (.sl rFld l)), (4, ii .i64 i)]) (fun (i : Nat) => []) 0 (fun (i : Nat) => l.length - i) 0 (⟨Nat.zero_le _, by simp⟩) (le_of ⟨rfl, rfl⟩ trivial rfl) ?_
    intro i hI0
    obtain ⟨hi, hall⟩ := hI0
    refine acode_seq ?_
    refine acode_seq ?_
    refine acode_region ?_
    intro l6_2
    try simp only [Int.toNat_natCast, dflt_sl, dflt_st, dflt_str, dflt_int, dflt_bool] at l6_2
    refine acode_cond rfl (fun h15 => ?_) (fun h15 => ?_)
    ·try simp only [decide_eq_true_eq] at h15
     try simp only [Int.toNat_natCast, dflt_sl, dflt_st, dflt_str, dflt_int, dflt_bool] at h15
     have hlt : i < l.length := (by omega)
     have hm := hl.2 _ (getD_mem hlt (ByteArray.empty, ByteArray.empty))
     have hne : l ≠ [] := (fun e => by rw [e] at hlt; simp at hlt)
     refine acode_skip ?_
     refine acode_seq ?_
     refine acode_block ?_
     refine acode_seq ?_
     refine acode_region ?_
     refine And.intro (by first | omega | assumption | decide | (simp only [Int.toNat_natCast, dflt_sl, dflt_st, dflt_str, dflt_int, dflt_bool]; omega) | (simp <;> omega)) ?_
     refine Or.inl ?_
     refine And.intro (rfl) ?_
     refine Exists.intro _ (And.intro (refCheck_c (l.getD i (ByteArray.empty, ByteArray.empty)) (by omega)) ?_)
     refine acode_seq ?_
     refine acode_region ?_
     refine acode_cond rfl (fun h24 => ?_) (fun h24 => ?_)
     ·try simp only [decide_eq_false_iff_not, Bool.not_eq_true'] at h24
      try simp only [Int.toNat_natCast, dflt_sl, dflt_st, dflt_str, dflt_int, dflt_bool] at h24
      refine acode_seq ?_
      refine acode_region ?_
      refine acode_ret ?_
      have e : chkR l = ((i : Int), checkF (l.getD i (ByteArray.empty, ByteArray.empty))) := (by unfold chkR; rw [if_neg hne, if_neg (by omega), badAt_hit l i 0 hlt hall h24, Int.zero_add])
      rw [e]
      rfl
     ·try simp only [decide_eq_true_eq, Bool.not_eq_false'] at h24
      try simp only [Int.toNat_natCast, dflt_sl, dflt_st, dflt_str, dflt_int, dflt_bool] at h24
      refine acode_skip ?_
      refine acode_region ?_
      refine And.intro (by first | omega | assumption | decide | (simp only [Int.toNat_natCast, dflt_sl, dflt_st, dflt_str, dflt_int, dflt_bool]; omega) | (simp <;> omega)) ?_
      exact ⟨i + 1, ⟨by omega, by rw [← take_snoc (ByteArray.empty, ByteArray.empty) hlt]; intro f hf; rcases List.mem_append.1 hf with h|h; exact hall f h; rw [List.mem_singleton.1 h]; exact h24⟩, by first | omega | (simp <;> omega), le_of ⟨rfl, (ii_eq (by omega))⟩ trivial rfl⟩
    ·try simp only [decide_eq_false_iff_not, Int.not_lt] at h15
     try simp only [Int.toNat_natCast, dflt_sl, dflt_st, dflt_str, dflt_int, dflt_bool] at h15
     refine acode_exit ?_
     refine acode_seq ?_
     refine acode_region ?_
     refine acode_ret ?_
     rw [List.take_of_length_le (by omega)] at hall
     have e : chkR l = (-9, 0) := (by unfold chkR; rw [if_neg (fun e => h8 (by rw [e]; rfl)), if_neg (by omega)]; exact badAt_no l 0 hall)
     rw [e]
     rfl
end Q
end Ab
end Go.Proofs.YtnimhpgacmojiaaGreatDoor
namespace Go.Proofs.YtnimhpgacmojiaaGreatDoor
open Go.RowKit
namespace Ab
set_option maxRecDepth 100000
namespace Q
abbrev zRL : List C := [.lit (.slice none 0 0), .lit (.int .i64 0)]
theorem refItem_c (f : List Fld) (hg : ∀ x ∈ f, checkF x = 0) (hn : f.length ≤ 1000) : ACall Tryz.prog 105 [.one (.sl rFld f)] (.agg (toL rItm (itmOf f))) := by
  refine acall_ofc (rs := [.cell 2 71]) Tryz.func105 rfl rfl rfl teOk rfl ?_
  refine acode_seq ?_
  refine acode_region ?_
  refine acode_seq ?_
  refine acode_region ?_
  refine Or.inl ?_
  refine And.intro (rfl) ?_
  refine Exists.intro _ (And.intro (refFold_c f hg hn) ?_)
  refine acode_ret ?_
  rfl
end Q
end Ab
end Go.Proofs.YtnimhpgacmojiaaGreatDoor
namespace Go.Proofs.YtnimhpgacmojiaaGreatDoor
open Go.RowKit
namespace Ab
set_option maxRecDepth 100000
namespace Q
theorem repl_len (es : List Ent) (k : Nat) (x : Itm) : (replE es k x).length = es.length := List.length_set
theorem repl_at {es : List Ent} {k i : Nat} {x : Itm} (hk : k < es.length) (h : i < es.length) : (replE es k x).take (i + 1) = (replE es k x).take i ++ [if i = k then (x, (es.getD k (((0 : Int), ByteArray.empty, ([] : List Fld)), (0 : Int))).2) else es.getD i (((0 : Int), ByteArray.empty, ([] : List Fld)), (0 : Int))] := by
  have h1 : i < (replE es k x).length := by rw [repl_len]; exact h
  rw [← take_snoc (((0 : Int), ByteArray.empty, ([] : List Fld)), (0 : Int)) h1]
  congr 2
  unfold replE
  rw [List.getD_eq_getElem?_getD, List.getElem?_set]
  by_cases e : i = k
  · subst e
    rw [if_pos rfl, if_pos hk, if_pos rfl]; rfl
  · rw [if_neg (fun h => e h.symm), if_neg e, ← List.getD_eq_getElem?_getD]
theorem refRep_c (es : List Ent) (n id : Int) (f : List Fld) (hf : FldsOk f) (hl : es.length ≤ 1000000) : ACall Tryz.prog 72 [.agg (toL rRL (es, n)), ii .i64 id, .one (.sl rFld f)] (.tup [(true, toL rRL (refRep (es, n) id f).1), (false, [.lit (.int .i64 (refRep (es, n) id f).2.1)]), (false, [.lit (.int .i64 (refRep (es, n) id f).2.2)])]) := by
  have hat := refFindAt_c es n id
  have hck := refChk_c f hf
  unfold refRep
  by_cases h0 : atE es id < 0
  · simp only [if_pos h0]
    refine acall_ofc (rs := [.cell 6 63, .tmp 7, .tmp 8]) Tryz.func72 rfl rfl rfl teOk rfl ?_
    refine acode_seq ?_
    refine acode_region ?_
    refine acode_seq ?_
    refine acode_region ?_
    refine Or.inl ?_
    refine And.intro (rfl) ?_
    refine Exists.intro _ (And.intro (hat) ?_)
    refine acode_seq ?_
    refine acode_seq ?_
    refine acode_region ?_
    refine acode_cond rfl (fun h19 => ?_) (fun h19 => ?_)
    ·try simp only [decide_eq_true_eq] at h19
     try simp only [Int.toNat_natCast, dflt_sl, dflt_st, dflt_str, dflt_int, dflt_bool] at h19
     refine acode_seq ?_
     refine acode_region ?_
     refine acode_ret ?_
     rfl
    ·try simp only [decide_eq_false_iff_not, Int.not_lt] at h19
     try simp only [Int.toNat_natCast, dflt_sl, dflt_st, dflt_str, dflt_int, dflt_bool] at h19
     omega
  · simp only [if_neg h0]
    by_cases hc : (chkR f).2 ≠ 0
    · simp only [if_pos hc]
      refine acall_ofc (rs := [.cell 6 63, .tmp 7, .tmp 8]) Tryz.func72 rfl rfl rfl teOk rfl ?_
      refine acode_seq ?_
      refine acode_region ?_
      refine acode_seq ?_
      refine acode_region ?_
      refine Or.inl ?_
      refine And.intro (rfl) ?_
      refine Exists.intro _ (And.intro (hat) ?_)
      refine acode_seq ?_
      refine acode_seq ?_
      refine acode_region ?_
      refine acode_cond rfl (fun h19 => ?_) (fun h19 => ?_)
      ·try simp only [decide_eq_true_eq] at h19
       try simp only [Int.toNat_natCast, dflt_sl, dflt_st, dflt_str, dflt_int, dflt_bool] at h19
       omega
      ·try simp only [decide_eq_false_iff_not, Int.not_lt] at h19
       try simp only [Int.toNat_natCast, dflt_sl, dflt_st, dflt_str, dflt_int, dflt_bool] at h19
       refine acode_skip ?_
       refine acode_seq ?_
       refine acode_region ?_
       refine Or.inl ?_
       refine And.intro (rfl) ?_
       refine Exists.intro _ (And.intro (hck) ?_)
       refine acode_seq ?_
       refine acode_seq ?_
       refine acode_region ?_
       refine acode_cond rfl (fun h27 => ?_) (fun h27 => ?_)
       ·try simp only [decide_eq_false_iff_not, Bool.not_eq_true'] at h27
        try simp only [Int.toNat_natCast, dflt_sl, dflt_st, dflt_str, dflt_int, dflt_bool] at h27
        refine acode_seq ?_
        refine acode_region ?_
        refine acode_ret ?_
        rfl
       ·try simp only [decide_eq_true_eq, Bool.not_eq_false'] at h27
        try simp only [Int.toNat_natCast, dflt_sl, dflt_st, dflt_str, dflt_int, dflt_bool] at h27
        exact absurd h27 hc
    · simp only [if_neg hc]
      have hc : (chkR f).2 = 0 := Classical.not_not.1 hc
      have hg := (chk_good hc).1
      obtain ⟨k, hk, he, _, _⟩ := at_lt h0
      rw [he, Int.toNat_natCast]
      rw [he] at hat
      refine acall_ofc (rs := [.cell 6 63, .tmp 7, .tmp 8]) Tryz.func72 rfl rfl rfl teOk rfl ?_
      refine acode_seq ?_
      refine acode_region ?_
      refine acode_seq ?_
      refine acode_region ?_
      refine Or.inl ?_
      refine And.intro (rfl) ?_
      refine Exists.intro _ (And.intro (hat) ?_)
      refine acode_seq ?_
      refine acode_seq ?_
      refine acode_region ?_
      refine acode_cond rfl (fun h19 => ?_) (fun h19 => ?_)
      ·try simp only [decide_eq_true_eq] at h19
       try simp only [Int.toNat_natCast, dflt_sl, dflt_st, dflt_str, dflt_int, dflt_bool] at h19
       omega
      ·try simp only [decide_eq_false_iff_not, Int.not_lt] at h19
       try simp only [Int.toNat_natCast, dflt_sl, dflt_st, dflt_str, dflt_int, dflt_bool] at h19
       refine acode_skip ?_
       refine acode_seq ?_
       refine acode_region ?_
       refine Or.inl ?_
       refine And.intro (rfl) ?_
       refine Exists.intro _ (And.intro (hck) ?_)
       refine acode_seq ?_
       refine acode_seq ?_
       refine acode_region ?_
       refine acode_cond rfl (fun h27 => ?_) (fun h27 => ?_)
       ·try simp only [decide_eq_false_iff_not, Bool.not_eq_true'] at h27
        try simp only [Int.toNat_natCast, dflt_sl, dflt_st, dflt_str, dflt_int, dflt_bool] at h27
        exact absurd hc h27
       ·try simp only [decide_eq_true_eq, Bool.not_eq_false'] at h27
        try simp only [Int.toNat_natCast, dflt_sl, dflt_st, dflt_str, dflt_int, dflt_bool] at h27
        refine acode_skip ?_
        refine acode_seq ?_
        refine acode_region ?_
        refine acode_seq ?_
        refine acode_seq ?_
        refine acode_nilcell 2 0 160 rEnt rfl rfl rfl ?_
        refine acode_region ?_
        refine acode_block ?_
        refine acode_loopP (fun (i : Nat) => i ≤ es.length) (fun (i : Nat) => [(2, .one (.sl rFld f)), (3, .one (.own 0 0)), (6, .one (.own 1 0)), (9, ii .i64 k), (12, .one (.own 2 0)), (13, ii .i64 i)]) (fun (i : Nat) => [(0, .box 63 (toL rRL (es, n))), (1, .box 63 [.lit (.slice none 0 0), .lit (.int .i64 0)]), (2, .box 63 [.vec 3, .lit (.int .i64 n)]), (3, .vec 160 rEnt ((replE es k (itmOf f)).take i))]) 4 (fun (i : Nat) => es.length - i) 0 (Nat.zero_le _) (le_of ⟨rfl, rfl, rfl, rfl, rfl, rfl⟩ ⟨rfl, rfl, rfl, rfl⟩ rfl) ?_
        intro i hI0
        refine acode_seq ?_
        refine acode_seq ?_
        refine acode_region ?_
        intro l9_3
        refine acode_cond rfl (fun h38 => ?_) (fun h38 => ?_)
        ·try simp only [decide_eq_true_eq] at h38
         try simp only [Int.toNat_natCast, dflt_sl, dflt_st, dflt_str, dflt_int, dflt_bool] at h38
         have hil : i < es.length := (by omega)
         have hsn := repl_at (x := itmOf f) hk hil
         refine acode_skip ?_
         refine acode_seq ?_
         refine acode_block ?_
         refine acode_seq ?_
         refine acode_region ?_
         refine And.intro (by first | omega | assumption | decide | (simp only []; omega) | (simp <;> omega)) ?_
         refine acode_seq ?_
         refine acode_seq ?_
         refine acode_region ?_
         refine acode_cond rfl (fun h48 => ?_) (fun h48 => ?_)
         ·try simp only [decide_eq_true_eq] at h48
          try simp only [Int.toNat_natCast, dflt_sl, dflt_st, dflt_str, dflt_int, dflt_bool] at h48
          have e1 : i = k := (by omega)
          rw [if_pos e1] at hsn
          subst e1
          refine acode_region ?_
          refine Or.inl ?_
          refine And.intro (rfl) ?_
          refine Exists.intro _ (And.intro (refItem_c f hg.2.2 hf.1) ?_)
          refine acode_region ?_
          refine And.intro (by exact app_le (show ((replE es _ (itmOf f)).take _).length + 1 ≤ 1000000000 by rw [List.length_take, repl_len]; omega) (by decide)) ?_
          refine acode_region ?_
          refine And.intro (by first | omega | assumption | decide | (simp only [Int.toNat_natCast, dflt_sl, dflt_st, dflt_str, dflt_int, dflt_bool]; omega) | (simp <;> omega)) ?_
          exact ⟨i + 1, by omega, by first | omega | (simp <;> omega), le_of ⟨rfl, rfl, rfl, rfl, rfl, (ii_eq (by omega))⟩ ⟨rfl, rfl, rfl, (vec_eq (by rw [hsn]; exact rfl))⟩ rfl⟩
         ·try simp only [decide_eq_false_iff_not] at h48
          try simp only [Int.toNat_natCast, dflt_sl, dflt_st, dflt_str, dflt_int, dflt_bool] at h48
          rw [if_neg (fun e1 => h48 (by rw [e1]))] at hsn
          refine acode_skip ?_
          refine acode_region ?_
          refine And.intro (by exact app_le (show ((replE es _ (itmOf f)).take _).length + 1 ≤ 1000000000 by rw [List.length_take, repl_len]; omega) (by decide)) ?_
          refine acode_region ?_
          refine And.intro (by first | omega | assumption | decide | (simp only [Int.toNat_natCast, dflt_sl, dflt_st, dflt_str, dflt_int, dflt_bool]; omega) | (simp <;> omega)) ?_
          exact ⟨i + 1, by omega, by first | omega | (simp <;> omega), le_of ⟨rfl, rfl, rfl, rfl, rfl, (ii_eq (by omega))⟩ ⟨rfl, rfl, rfl, (vec_eq (by rw [hsn]; exact rfl))⟩ rfl⟩
        ·try simp only [decide_eq_false_iff_not, Int.not_lt] at h38
         try simp only [Int.toNat_natCast, dflt_sl, dflt_st, dflt_str, dflt_int, dflt_bool] at h38
         refine acode_exit ?_
         refine acode_seq ?_
         refine acode_region ?_
         refine acode_frz [3] ?_
         refine acode_ret ?_
         rw [List.take_of_length_le (by rw [repl_len]; omega)]
         exact rfl
theorem del_at {es : List Ent} {k i : Nat} (h : i < es.length) : delE (es.take (i + 1)) k = delE (es.take i) k ++ (if i = k then [] else [es.getD i (((0 : Int), ByteArray.empty, ([] : List Fld)), (0 : Int))]) := by
  unfold delE
  rw [← take_snoc (((0 : Int), ByteArray.empty, ([] : List Fld)), (0 : Int)) h, List.take_append, List.drop_append, List.length_take, Nat.min_eq_left (by omega)]
  rcases Nat.lt_trichotomy i k with h1 | h1 | h1
  · rw [if_neg (by omega)]
    have e1 : (es.take i).drop (k + 1) = [] := List.drop_of_length_le (by rw [List.length_take]; omega)
    have e2 : [es.getD i (((0 : Int), ByteArray.empty, ([] : List Fld)), (0 : Int))].take (k - i) = [es.getD i (((0 : Int), ByteArray.empty, ([] : List Fld)), (0 : Int))] := List.take_of_length_le (by simp; omega)
    have e3 : [es.getD i (((0 : Int), ByteArray.empty, ([] : List Fld)), (0 : Int))].drop (k + 1 - i) = [] := List.drop_of_length_le (by simp; omega)
    rw [e1, e2, e3]
    simp
  · subst h1
    rw [if_pos rfl]
    have e3 : [es.getD i (((0 : Int), ByteArray.empty, ([] : List Fld)), (0 : Int))].drop (i + 1 - i) = [] := List.drop_of_length_le (by simp)
    rw [e3, Nat.sub_self]
    simp
  · rw [if_neg (by omega)]
    have e2 : [es.getD i (((0 : Int), ByteArray.empty, ([] : List Fld)), (0 : Int))].take (k - i) = [] := by rw [show k - i = 0 by omega]; rfl
    have e3 : [es.getD i (((0 : Int), ByteArray.empty, ([] : List Fld)), (0 : Int))].drop (k + 1 - i) = [es.getD i (((0 : Int), ByteArray.empty, ([] : List Fld)), (0 : Int))] := by rw [show k + 1 - i = 0 by omega]; rfl
    rw [e2, e3]
    simp
theorem del_le (es : List Ent) (k i : Nat) : (delE (es.take i) k).length ≤ es.length := by
  unfold delE
  rw [List.length_append, List.length_take, List.length_drop, List.length_take]
  omega
theorem refDel_c (es : List Ent) (n id : Int) (hl : es.length ≤ 1000000) : ACall Tryz.prog 73 [.agg (toL rRL (es, n)), ii .i64 id] (.tup [(true, toL rRL (refDel (es, n) id).1), (false, [.lit (.int .i64 (refDel (es, n) id).2)])]) := by
  have hat := refFindAt_c es n id
  unfold refDel
  by_cases h0 : atE es id < 0
  · simp only [if_pos h0]
    refine acall_ofc (rs := [.cell 4 63, .tmp 5]) Tryz.func73 rfl rfl rfl teOk rfl ?_
    refine acode_seq ?_
    refine acode_region ?_
    refine acode_seq ?_
    refine acode_region ?_
    refine Or.inl ?_
    refine And.intro (rfl) ?_
    refine Exists.intro _ (And.intro (hat) ?_)
    refine acode_seq ?_
    refine acode_seq ?_
    refine acode_region ?_
    refine acode_cond rfl (fun h13 => ?_) (fun h13 => ?_)
    ·try simp only [decide_eq_true_eq] at h13
     try simp only [Int.toNat_natCast, dflt_sl, dflt_st, dflt_str, dflt_int, dflt_bool] at h13
     refine acode_seq ?_
     refine acode_region ?_
     refine acode_ret ?_
     rfl
    ·try simp only [decide_eq_false_iff_not, Int.not_lt] at h13
     try simp only [Int.toNat_natCast, dflt_sl, dflt_st, dflt_str, dflt_int, dflt_bool] at h13
     omega
  · simp only [if_neg h0]
    obtain ⟨k, hk, he, _, _⟩ := at_lt h0
    rw [he, Int.toNat_natCast]
    rw [he] at hat
    refine acall_ofc (rs := [.cell 4 63, .tmp 5]) Tryz.func73 rfl rfl rfl teOk rfl ?_
    refine acode_seq ?_
    refine acode_region ?_
    refine acode_seq ?_
    refine acode_region ?_
    refine Or.inl ?_
    refine And.intro (rfl) ?_
    refine Exists.intro _ (And.intro (hat) ?_)
    refine acode_seq ?_
    refine acode_seq ?_
    refine acode_region ?_
    refine acode_cond rfl (fun h13 => ?_) (fun h13 => ?_)
    ·try simp only [decide_eq_true_eq] at h13
     try simp only [Int.toNat_natCast, dflt_sl, dflt_st, dflt_str, dflt_int, dflt_bool] at h13
     omega
    ·try simp only [decide_eq_false_iff_not, Int.not_lt] at h13
     try simp only [Int.toNat_natCast, dflt_sl, dflt_st, dflt_str, dflt_int, dflt_bool] at h13
     refine acode_skip ?_
     refine acode_seq ?_
     refine acode_region ?_
     refine acode_seq ?_
     refine acode_seq ?_
     refine acode_nilcell 2 0 160 rEnt rfl rfl rfl ?_
     refine acode_region ?_
     refine acode_block ?_
     refine acode_loopP (fun (i : Nat) => i ≤ es.length) (fun (i : Nat) => [(2, .one (.own 0 0)), (4, .one (.own 1 0)), (6, ii .i64 k), (7, .one (.own 2 0)), (8, ii .i64 i)]) (fun (i : Nat) => [(0, .box 63 (toL rRL (es, n))), (1, .box 63 [.lit (.slice none 0 0), .lit (.int .i64 0)]), (2, .box 63 [.vec 3, .lit (.int .i64 n)]), (3, .vec 160 rEnt (delE (es.take i) k))]) 4 (fun (i : Nat) => es.length - i) 0 (Nat.zero_le _) (le_of ⟨rfl, rfl, rfl, rfl, rfl⟩ ⟨rfl, rfl, rfl, (vec_eq (by simp [delE]))⟩ rfl) ?_
     intro i hI0
     refine acode_seq ?_
     refine acode_seq ?_
     refine acode_region ?_
     intro l6_3
     refine acode_cond rfl (fun h22 => ?_) (fun h22 => ?_)
     ·try simp only [decide_eq_true_eq] at h22
      try simp only [Int.toNat_natCast, dflt_sl, dflt_st, dflt_str, dflt_int, dflt_bool] at h22
      have hil : i < es.length := (by omega)
      have hsn := del_at (k := k) hil
      have hdl := del_le es k i
      refine acode_skip ?_
      refine acode_seq ?_
      refine acode_block ?_
      refine acode_seq ?_
      refine acode_region ?_
      refine acode_cond rfl (fun h27 => ?_) (fun h27 => ?_)
      ·try simp only [decide_eq_false_iff_not, Bool.not_eq_true'] at h27
       try simp only [Int.toNat_natCast, dflt_sl, dflt_st, dflt_str, dflt_int, dflt_bool] at h27
       rw [if_neg (fun e1 => h27 (by rw [e1]))] at hsn
       refine acode_ord rfl ?_
       refine aord_light 0 rfl rfl rfl (by kernel_rfl) ?_
       refine aord_light 2 rfl rfl rfl (by kernel_rfl) ?_
       refine aord_light 4 rfl rfl rfl (by kernel_rfl) ?_
       refine aord_all [1, 3] (by kernel_rfl) rfl ?_
       refine And.intro ?_ ?_
       ·refine aord_all [3] (by kernel_rfl) rfl ?_
        refine aord_light 5 rfl rfl rfl (by kernel_rfl) ?_
        refine And.intro (by first | omega | assumption | decide | (simp only []; omega) | (simp <;> omega)) ?_
        refine aord_all [6] (by kernel_rfl) rfl ?_
        refine aord_all [7] (by kernel_rfl) rfl ?_
        refine aord_all [8] (by kernel_rfl) rfl ?_
        refine And.intro (by exact app_le (show (delE (es.take i) k).length + 1 ≤ 1000000000 by omega) (by decide)) ?_
        refine aord_light 9 rfl rfl rfl (by kernel_rfl) ?_
        refine aord_all [10] (by kernel_rfl) rfl ?_
        refine aord_done (by kernel_rfl) ?_
        refine acode_region ?_
        refine And.intro (by first | omega | assumption | decide | (simp only [Int.toNat_natCast, dflt_sl, dflt_st, dflt_str, dflt_int, dflt_bool]; omega) | (simp <;> omega)) ?_
        exact ⟨i + 1, by omega, by first | omega | (simp <;> omega), le_of ⟨rfl, rfl, rfl, rfl, (ii_eq (by omega))⟩ ⟨rfl, rfl, rfl, (vec_eq (by rw [hsn]; try exact rfl))⟩ rfl⟩
       ·refine aord_light 5 rfl rfl rfl (by kernel_rfl) ?_
        refine And.intro (by first | omega | assumption | decide | (simp only []; omega) | (simp <;> omega)) ?_
        refine aord_all [1, 6] (by kernel_rfl) rfl ?_
        refine And.intro ?_ ?_
        ·refine aord_all [6] (by kernel_rfl) rfl ?_
         refine aord_all [7] (by kernel_rfl) rfl ?_
         refine aord_all [8] (by kernel_rfl) rfl ?_
         refine And.intro (by exact app_le (show (delE (es.take i) k).length + 1 ≤ 1000000000 by omega) (by decide)) ?_
         refine aord_light 9 rfl rfl rfl (by kernel_rfl) ?_
         refine aord_all [10] (by kernel_rfl) rfl ?_
         refine aord_done (by kernel_rfl) ?_
         refine acode_region ?_
         refine And.intro (by first | omega | assumption | decide | (simp only [Int.toNat_natCast, dflt_sl, dflt_st, dflt_str, dflt_int, dflt_bool]; omega) | (simp <;> omega)) ?_
         exact ⟨i + 1, by omega, by first | omega | (simp <;> omega), le_of ⟨rfl, rfl, rfl, rfl, (ii_eq (by omega))⟩ ⟨rfl, rfl, rfl, (vec_eq (by rw [hsn]; try exact rfl))⟩ rfl⟩
        ·refine aord_all [1, 7] (by kernel_rfl) rfl ?_
         refine And.intro ?_ ?_
         ·refine aord_all [7] (by kernel_rfl) rfl ?_
          refine aord_all [8] (by kernel_rfl) rfl ?_
          refine And.intro (by exact app_le (show (delE (es.take i) k).length + 1 ≤ 1000000000 by omega) (by decide)) ?_
          refine aord_light 9 rfl rfl rfl (by kernel_rfl) ?_
          refine aord_all [10] (by kernel_rfl) rfl ?_
          refine aord_done (by kernel_rfl) ?_
          refine acode_region ?_
          refine And.intro (by first | omega | assumption | decide | (simp only [Int.toNat_natCast, dflt_sl, dflt_st, dflt_str, dflt_int, dflt_bool]; omega) | (simp <;> omega)) ?_
          exact ⟨i + 1, by omega, by first | omega | (simp <;> omega), le_of ⟨rfl, rfl, rfl, rfl, (ii_eq (by omega))⟩ ⟨rfl, rfl, rfl, (vec_eq (by rw [hsn]; try exact rfl))⟩ rfl⟩
         ·refine aord_all [1] (by kernel_rfl) rfl ?_
          refine aord_all [8] (by kernel_rfl) rfl ?_
          refine And.intro (by exact app_le (show (delE (es.take i) k).length + 1 ≤ 1000000000 by omega) (by decide)) ?_
          refine aord_light 9 rfl rfl rfl (by kernel_rfl) ?_
          refine aord_all [10] (by kernel_rfl) rfl ?_
          refine aord_done (by kernel_rfl) ?_
          refine acode_region ?_
          refine And.intro (by first | omega | assumption | decide | (simp only [Int.toNat_natCast, dflt_sl, dflt_st, dflt_str, dflt_int, dflt_bool]; omega) | (simp <;> omega)) ?_
          exact ⟨i + 1, by omega, by first | omega | (simp <;> omega), le_of ⟨rfl, rfl, rfl, rfl, (ii_eq (by omega))⟩ ⟨rfl, rfl, rfl, (vec_eq (by rw [hsn]; try exact rfl))⟩ rfl⟩
      ·try simp only [decide_eq_true_eq, Bool.not_eq_false'] at h27
       try simp only [Int.toNat_natCast, dflt_sl, dflt_st, dflt_str, dflt_int, dflt_bool] at h27
       rw [if_pos (by omega), List.append_nil] at hsn
       refine acode_skip ?_
       refine acode_region ?_
       refine And.intro (by first | omega | assumption | decide | (simp only [Int.toNat_natCast, dflt_sl, dflt_st, dflt_str, dflt_int, dflt_bool]; omega) | (simp <;> omega)) ?_
       exact ⟨i + 1, by omega, by first | omega | (simp <;> omega), le_of ⟨rfl, rfl, rfl, rfl, (ii_eq (by omega))⟩ ⟨rfl, rfl, rfl, (vec_eq (by rw [hsn]; try exact rfl))⟩ rfl⟩
     ·try simp only [decide_eq_false_iff_not, Int.not_lt] at h22
      try simp only [Int.toNat_natCast, dflt_sl, dflt_st, dflt_str, dflt_int, dflt_bool] at h22
      refine acode_exit ?_
      refine acode_seq ?_
      refine acode_region ?_
      refine acode_frz [3] ?_
      refine acode_ret ?_
      rw [List.take_of_length_le (show es.length ≤ i by omega)]
      exact rfl
def insT (es : List Ent) (j : Nat) (e : Ent) (i : Nat) : List Ent := if i < j then es.take i else insE (es.take i) j e
theorem insT_snoc {es : List Ent} {j i : Nat} {e : Ent} (h : i < es.length) : insT es j e (i + 1) = insT es j e i ++ (if i + 1 = j then [es.getD i (((0 : Int), ByteArray.empty, ([] : List Fld)), (0 : Int)), e] else [es.getD i (((0 : Int), ByteArray.empty, ([] : List Fld)), (0 : Int))]) := by
  unfold insT insE
  rcases Nat.lt_trichotomy (i + 1) j with h1 | h1 | h1
  · rw [if_pos h1, if_pos (by omega), if_neg (by omega), take_snoc (((0 : Int), ByteArray.empty, ([] : List Fld)), (0 : Int)) h]
  · subst h1
    rw [if_neg (by omega), if_pos (by omega), if_pos rfl, ← take_snoc (((0 : Int), ByteArray.empty, ([] : List Fld)), (0 : Int)) h]
    have e1 : (es.take i ++ [es.getD i (((0 : Int), ByteArray.empty, ([] : List Fld)), (0 : Int))]).take (i + 1) = es.take i ++ [es.getD i (((0 : Int), ByteArray.empty, ([] : List Fld)), (0 : Int))] := List.take_of_length_le (by simp; omega)
    have e2 : (es.take i ++ [es.getD i (((0 : Int), ByteArray.empty, ([] : List Fld)), (0 : Int))]).drop (i + 1) = [] := List.drop_of_length_le (by simp; omega)
    rw [e1, e2]
    simp
  · rw [if_neg (by omega), if_neg (by omega), if_neg (by omega), ← take_snoc (((0 : Int), ByteArray.empty, ([] : List Fld)), (0 : Int)) h]
    have e1 : (es.take i ++ [es.getD i (((0 : Int), ByteArray.empty, ([] : List Fld)), (0 : Int))]).take j = (es.take i).take j := by rw [List.take_append_of_le_length (by rw [List.length_take]; omega)]
    have e2 : (es.take i ++ [es.getD i (((0 : Int), ByteArray.empty, ([] : List Fld)), (0 : Int))]).drop j = (es.take i).drop j ++ [es.getD i (((0 : Int), ByteArray.empty, ([] : List Fld)), (0 : Int))] := by rw [List.drop_append_of_le_length (by rw [List.length_take]; omega)]
    rw [e1, e2]
    simp
theorem insT_le (es : List Ent) (j : Nat) (e : Ent) (i : Nat) : (insT es j e i).length ≤ es.length + 1 := by
  unfold insT insE
  split
  · rw [List.length_take]; omega
  · rw [List.length_append, List.length_cons, List.length_take, List.length_drop, List.length_take]; omega
theorem insT_all {es : List Ent} {j i : Nat} {e : Ent} (hj : j ≤ es.length) (hi : es.length ≤ i) : insT es j e i = insE es j e := by
  unfold insT
  rw [if_neg (by omega), List.take_of_length_le hi]
theorem insT_0 (es : List Ent) (e : Ent) : insT es 0 e 0 = [e] := by
  unfold insT insE
  rw [if_neg (by omega)]
  simp
theorem insT_1 {es : List Ent} {j : Nat} {e : Ent} (hj : 0 < j) : insT es j e 0 = [] := by
  unfold insT
  rw [if_pos hj]
  simp
theorem liveN_snoc {es : List Ent} {i : Nat} (h : i < es.length) : ((es.take (i + 1)).filter live).length = ((es.take i).filter live).length + if live (es.getD i (((0 : Int), ByteArray.empty, ([] : List Fld)), (0 : Int))) then 1 else 0 := by
  rw [← take_snoc (((0 : Int), ByteArray.empty, ([] : List Fld)), (0 : Int)) h, List.filter_append, List.length_append]
  congr 1
  generalize es.getD i (((0 : Int), ByteArray.empty, ([] : List Fld)), (0 : Int)) = x
  cases hx : live x
  · simp [hx]
  · simp [hx]
theorem liveN_le (es : List Ent) (i : Nat) : ((es.take i).filter live).length ≤ es.length := by
  refine Nat.le_trans (List.length_filter_le _ _) ?_
  rw [List.length_take]
  omega
theorem refLen_c (es : List Ent) (n : Int) (hl : es.length ≤ 1000000) : ACall Tryz.prog 106 [.agg (toL rRL (es, n))] (ii .i64 ((es.filter live).length : Int)) := by
  refine acall_of (rs := [2]) Tryz.func106 rfl rfl rfl teOk rfl ?_
  refine acode_seq ?_
  refine acode_region ?_
  refine acode_seq ?_
  refine acode_region ?_
  refine acode_seq ?_
  refine acode_seq ?_
  refine acode_region ?_
  refine acode_block ?_
  refine acode_loopP (fun (i : Nat) => i ≤ es.length) (fun (i : Nat) => [(1, .one (.own 0 0)), (3, ii .i64 (((es.take i).filter live).length : Int)), (4, ii .i64 i)]) (fun (i : Nat) => [(0, .box 63 (toL rRL (es, n)))]) 1 (fun (i : Nat) => es.length - i) 0 (Nat.zero_le _) (le_of ⟨rfl, rfl, rfl⟩ rfl rfl) ?_
  intro i hI0
  refine acode_seq ?_
  refine acode_seq ?_
  refine acode_region ?_
  intro l3_3
  refine acode_cond rfl (fun h9 => ?_) (fun h9 => ?_)
  ·try simp only [decide_eq_true_eq] at h9
   try simp only [Int.toNat_natCast, dflt_sl, dflt_st, dflt_str, dflt_int, dflt_bool] at h9
   have hil : i < es.length := (by omega)
   have hsn := liveN_snoc hil
   have hsl := liveN_le es i
   refine acode_skip ?_
   refine acode_seq ?_
   refine acode_block ?_
   refine acode_seq ?_
   refine acode_region ?_
   refine And.intro (by first | omega | assumption | decide | (simp only []; omega) | (simp <;> omega)) ?_
   refine acode_cond rfl (fun h18 => ?_) (fun h18 => ?_)
   ·try simp only [decide_eq_true_eq] at h18
    try simp only [Int.toNat_natCast, dflt_sl, dflt_st, dflt_str, dflt_int] at h18
    have hk : live (es.getD i (((0 : Int), ByteArray.empty, ([] : List Fld)), (0 : Int))) = true := decide_eq_true h18
    rw [hk, if_pos rfl] at hsn
    refine acode_region ?_
    refine And.intro (by first | omega | assumption | decide | (simp only [Int.toNat_natCast, dflt_sl, dflt_st, dflt_str, dflt_int, dflt_bool]; omega) | (simp <;> omega)) ?_
    refine acode_region ?_
    refine And.intro (by first | omega | assumption | decide | (simp only [Int.toNat_natCast, dflt_sl, dflt_st, dflt_str, dflt_int, dflt_bool]; omega) | (simp <;> omega)) ?_
    exact ⟨i + 1, by omega, by first | omega | (simp <;> omega), le_of ⟨rfl, (ii_eq (by omega)), (ii_eq (by omega))⟩ rfl rfl⟩
   ·try simp only [decide_eq_false_iff_not, Int.not_lt] at h18
    try simp only [Int.toNat_natCast, dflt_sl, dflt_st, dflt_str, dflt_int] at h18
    have hk : live (es.getD i (((0 : Int), ByteArray.empty, ([] : List Fld)), (0 : Int))) = false := decide_eq_false (by omega)
    rw [hk, if_neg Bool.false_ne_true] at hsn
    refine acode_skip ?_
    refine acode_region ?_
    refine And.intro (by first | omega | assumption | decide | (simp only [Int.toNat_natCast, dflt_sl, dflt_st, dflt_str, dflt_int, dflt_bool]; omega) | (simp <;> omega)) ?_
    exact ⟨i + 1, by omega, by first | omega | (simp <;> omega), le_of ⟨rfl, (ii_eq (by omega)), (ii_eq (by omega))⟩ rfl rfl⟩
  ·try simp only [decide_eq_false_iff_not, Int.not_lt] at h9
   try simp only [Int.toNat_natCast, dflt_sl, dflt_st, dflt_str, dflt_int, dflt_bool] at h9
   refine acode_exit ?_
   refine acode_seq ?_
   refine acode_region ?_
   refine acode_ret ?_
   rw [List.take_of_length_le (by omega)]
   exact rfl
theorem refIns_c (es : List Ent) (n id : Int) (f : List Fld) (hf : FldsOk f) (hl : es.length ≤ 1000000) (hn : 0 ≤ n ∧ n ≤ 1000000000) : ACall Tryz.prog 74 [.agg (toL rRL (es, n)), ii .i64 id, .one (.sl rFld f)] (.tup [(true, toL rRL (refIns (es, n) id f).1), (false, [.lit (.int .i64 (refIns (es, n) id f).2.1)]), (false, [.lit (.int .i64 (refIns (es, n) id f).2.2.1)]), (false, [.lit (.int .i64 (refIns (es, n) id f).2.2.2)])]) := by
  have hat := refFindAt_c es n id
  have hck := refChk_c f hf
  have hln := refLen_c es n hl
  unfold refIns
  by_cases h0 : atE es id < 0 ∧ id ≠ 0
  · simp only [if_pos h0]
    refine acall_ofc (rs := [.cell 6 63, .tmp 7, .tmp 8, .tmp 9]) Tryz.func74 rfl rfl rfl teOk rfl ?_
    refine acode_seq ?_
    refine acode_region ?_
    refine acode_seq ?_
    refine acode_region ?_
    refine Or.inl ?_
    refine And.intro (rfl) ?_
    refine Exists.intro _ (And.intro (hat) ?_)
    refine acode_seq ?_
    refine acode_seq ?_
    refine acode_region ?_
    refine And.intro (fun h => trivial) ?_
    refine And.intro (fun h => ⟨⟨h, trivial⟩, trivial⟩) ?_
    refine And.intro (by exact fun h => h) ?_
    refine acode_cond rfl (fun h24 => ?_) (fun h24 => ?_)
    ·try simp only [decide_eq_true_eq, decide_eq_false_iff_not, Bool.and_eq_true, Bool.not_eq_true'] at h24
     try simp only [Int.toNat_natCast, dflt_sl, dflt_st, dflt_str, dflt_int, dflt_bool] at h24
     refine acode_seq ?_
     refine acode_region ?_
     refine acode_ret ?_
     rfl
    ·try simp only [decide_eq_true_eq, decide_eq_false_iff_not, Bool.not_eq_false', Bool.and_eq_false_iff, Int.not_lt] at h24
     try simp only [Int.toNat_natCast, dflt_sl, dflt_st, dflt_str, dflt_int, dflt_bool] at h24
     omega
  · simp only [if_neg h0]
    by_cases hc : (chkR f).2 ≠ 0
    · simp only [if_pos hc]
      refine acall_ofc (rs := [.cell 6 63, .tmp 7, .tmp 8, .tmp 9]) Tryz.func74 rfl rfl rfl teOk rfl ?_
      refine acode_seq ?_
      refine acode_region ?_
      refine acode_seq ?_
      refine acode_region ?_
      refine Or.inl ?_
      refine And.intro (rfl) ?_
      refine Exists.intro _ (And.intro (hat) ?_)
      refine acode_seq ?_
      refine acode_seq ?_
      refine acode_region ?_
      refine And.intro (fun h => trivial) ?_
      refine And.intro (fun h => ⟨⟨h, trivial⟩, trivial⟩) ?_
      refine And.intro (by exact fun h => h) ?_
      refine acode_cond rfl (fun h24 => ?_) (fun h24 => ?_)
      ·try simp only [decide_eq_true_eq, decide_eq_false_iff_not, Bool.and_eq_true, Bool.not_eq_true'] at h24
       try simp only [Int.toNat_natCast, dflt_sl, dflt_st, dflt_str, dflt_int, dflt_bool] at h24
       omega
      ·try simp only [decide_eq_true_eq, decide_eq_false_iff_not, Bool.not_eq_false', Bool.and_eq_false_iff, Int.not_lt] at h24
       try simp only [Int.toNat_natCast, dflt_sl, dflt_st, dflt_str, dflt_int, dflt_bool] at h24
       refine acode_skip ?_
       refine acode_seq ?_
       refine acode_region ?_
       refine Or.inl ?_
       refine And.intro (rfl) ?_
       refine Exists.intro _ (And.intro (hck) ?_)
       refine acode_seq ?_
       refine acode_seq ?_
       refine acode_region ?_
       refine acode_cond rfl (fun h32 => ?_) (fun h32 => ?_)
       ·try simp only [decide_eq_false_iff_not, Bool.not_eq_true'] at h32
        try simp only [Int.toNat_natCast, dflt_sl, dflt_st, dflt_str, dflt_int, dflt_bool] at h32
        refine acode_seq ?_
        refine acode_region ?_
        refine acode_ret ?_
        rfl
       ·try simp only [decide_eq_true_eq, Bool.not_eq_false'] at h32
        try simp only [Int.toNat_natCast, dflt_sl, dflt_st, dflt_str, dflt_int, dflt_bool] at h32
        exact absurd h32 hc
    · simp only [if_neg hc]
      have hc : (chkR f).2 = 0 := Classical.not_not.1 hc
      have hg := (chk_good hc).1
      by_cases h4 : 400 ≤ ((es.filter live).length : Int)
      · simp only [if_pos h4]
        refine acall_ofc (rs := [.cell 6 63, .tmp 7, .tmp 8, .tmp 9]) Tryz.func74 rfl rfl rfl teOk rfl ?_
        refine acode_seq ?_
        refine acode_region ?_
        refine acode_seq ?_
        refine acode_region ?_
        refine Or.inl ?_
        refine And.intro (rfl) ?_
        refine Exists.intro _ (And.intro (hat) ?_)
        refine acode_seq ?_
        refine acode_seq ?_
        refine acode_region ?_
        refine And.intro (fun h => trivial) ?_
        refine And.intro (fun h => ⟨⟨h, trivial⟩, trivial⟩) ?_
        refine And.intro (by exact fun h => h) ?_
        refine acode_cond rfl (fun h24 => ?_) (fun h24 => ?_)
        ·try simp only [decide_eq_true_eq, decide_eq_false_iff_not, Bool.and_eq_true, Bool.not_eq_true'] at h24
         try simp only [Int.toNat_natCast, dflt_sl, dflt_st, dflt_str, dflt_int, dflt_bool] at h24
         omega
        ·try simp only [decide_eq_true_eq, decide_eq_false_iff_not, Bool.not_eq_false', Bool.and_eq_false_iff, Int.not_lt] at h24
         try simp only [Int.toNat_natCast, dflt_sl, dflt_st, dflt_str, dflt_int, dflt_bool] at h24
         refine acode_skip ?_
         refine acode_seq ?_
         refine acode_region ?_
         refine Or.inl ?_
         refine And.intro (rfl) ?_
         refine Exists.intro _ (And.intro (hck) ?_)
         refine acode_seq ?_
         refine acode_seq ?_
         refine acode_region ?_
         refine acode_cond rfl (fun h32 => ?_) (fun h32 => ?_)
         ·try simp only [decide_eq_false_iff_not, Bool.not_eq_true'] at h32
          try simp only [Int.toNat_natCast, dflt_sl, dflt_st, dflt_str, dflt_int, dflt_bool] at h32
          exact absurd hc h32
         ·try simp only [decide_eq_true_eq, Bool.not_eq_false'] at h32
          try simp only [Int.toNat_natCast, dflt_sl, dflt_st, dflt_str, dflt_int, dflt_bool] at h32
          refine acode_skip ?_
          refine acode_seq ?_
          refine acode_seq ?_
          refine acode_region ?_
          refine Or.inl ?_
          refine And.intro (rfl) ?_
          refine Exists.intro _ (And.intro (hln) ?_)
          refine acode_cond rfl (fun h38 => ?_) (fun h38 => ?_)
          ·try simp only [decide_eq_true_eq] at h38
           try simp only [Int.toNat_natCast, dflt_sl, dflt_st, dflt_str, dflt_int, dflt_bool] at h38
           refine acode_seq ?_
           refine acode_region ?_
           refine acode_ret ?_
           rfl
          ·try simp only [decide_eq_false_iff_not, Int.not_le] at h38
           try simp only [Int.toNat_natCast, dflt_sl, dflt_st, dflt_str, dflt_int, dflt_bool] at h38
           omega
      · simp only [if_neg h4]
        obtain ⟨j, hj, hje⟩ : ∃ j : Nat, j ≤ es.length ∧ atE es id + 1 = (j : Int) := by
          rcases at_cases es id with ⟨h1, _⟩ | ⟨i, h1, h2, _⟩
          · exact ⟨0, Nat.zero_le _, by omega⟩
          · exact ⟨i + 1, by omega, by omega⟩
        rw [hje, Int.toNat_natCast]
        refine acall_ofc (rs := [.cell 6 63, .tmp 7, .tmp 8, .tmp 9]) Tryz.func74 rfl rfl rfl teOk rfl ?_
        refine acode_seq ?_
        refine acode_region ?_
        refine acode_seq ?_
        refine acode_region ?_
        refine Or.inl ?_
        refine And.intro (rfl) ?_
        refine Exists.intro _ (And.intro (hat) ?_)
        refine acode_seq ?_
        refine acode_seq ?_
        refine acode_region ?_
        refine And.intro (fun h => trivial) ?_
        refine And.intro (fun h => ⟨⟨h, trivial⟩, trivial⟩) ?_
        refine And.intro (by exact fun h => h) ?_
        refine acode_cond rfl (fun h24 => ?_) (fun h24 => ?_)
        ·try simp only [decide_eq_true_eq, decide_eq_false_iff_not, Bool.and_eq_true, Bool.not_eq_true'] at h24
         try simp only [Int.toNat_natCast, dflt_sl, dflt_st, dflt_str, dflt_int, dflt_bool] at h24
         omega
        ·try simp only [decide_eq_true_eq, decide_eq_false_iff_not, Bool.not_eq_false', Bool.and_eq_false_iff, Int.not_lt] at h24
         try simp only [Int.toNat_natCast, dflt_sl, dflt_st, dflt_str, dflt_int, dflt_bool] at h24
         refine acode_skip ?_
         refine acode_seq ?_
         refine acode_region ?_
         refine Or.inl ?_
         refine And.intro (rfl) ?_
         refine Exists.intro _ (And.intro (hck) ?_)
         refine acode_seq ?_
         refine acode_seq ?_
         refine acode_region ?_
         refine acode_cond rfl (fun h32 => ?_) (fun h32 => ?_)
         ·try simp only [decide_eq_false_iff_not, Bool.not_eq_true'] at h32
          try simp only [Int.toNat_natCast, dflt_sl, dflt_st, dflt_str, dflt_int, dflt_bool] at h32
          exact absurd hc h32
         ·try simp only [decide_eq_true_eq, Bool.not_eq_false'] at h32
          try simp only [Int.toNat_natCast, dflt_sl, dflt_st, dflt_str, dflt_int, dflt_bool] at h32
          refine acode_skip ?_
          refine acode_seq ?_
          refine acode_seq ?_
          refine acode_region ?_
          refine Or.inl ?_
          refine And.intro (rfl) ?_
          refine Exists.intro _ (And.intro (hln) ?_)
          refine acode_cond rfl (fun h38 => ?_) (fun h38 => ?_)
          ·try simp only [decide_eq_true_eq] at h38
           try simp only [Int.toNat_natCast, dflt_sl, dflt_st, dflt_str, dflt_int, dflt_bool] at h38
           omega
          ·try simp only [decide_eq_false_iff_not, Int.not_le] at h38
           try simp only [Int.toNat_natCast, dflt_sl, dflt_st, dflt_str, dflt_int, dflt_bool] at h38
           refine acode_skip ?_
           refine acode_seq ?_
           refine acode_region ?_
           refine And.intro (by first | omega | assumption | decide | (simp only [Int.toNat_natCast, dflt_sl, dflt_st, dflt_str, dflt_int, dflt_bool]; omega) | (simp <;> omega)) ?_
           refine acode_cut (fun (u : Unit) => True) (fun (u : Unit) => [(3, .one (.own 0 0)), (6, .one (.own 1 0)), (10, ii .i64 (atE es id)), (13, .one (.own 2 0)), (14, .one (.own 4 0))]) (fun (u : Unit) => [(0, .box 63 (toL rRL (es, n))), (1, .box 63 [.lit (.slice none 0 0), .lit (.int .i64 0)]), (2, .box 63 [.vec 3, .lit (.int .i64 (n + 1))]), (3, .vec 160 rEnt []), (4, .box 160 (toL rEnt (itmOf f, n)))]) 5 ?_ ?_
           ·refine acode_nilcell 2 0 160 rEnt rfl rfl rfl ?_
            refine acode_ord rfl ?_
            refine aord_light 0 rfl rfl rfl (by kernel_rfl) ?_
            refine aord_light 2 rfl rfl rfl (by kernel_rfl) ?_
            refine aord_all [1, 3, 5] (by kernel_rfl) rfl ?_
            refine And.intro ?_ ?_
            ·refine Or.inl ?_
             refine And.intro (rfl) ?_
             refine Exists.intro _ (And.intro (refItem_c f hg.2.2 hf.1) ?_)
             refine aord_all [3, 5] (by kernel_rfl) rfl ?_
             refine And.intro ?_ ?_
             ·refine aord_all [4, 5] (by kernel_rfl) rfl ?_
              refine And.intro ?_ ?_
              ·refine aord_all [5] (by kernel_rfl) rfl ?_
               refine aord_all [6] (by kernel_rfl) rfl ?_
               refine aord_done (by kernel_rfl) ?_
               exact ⟨(), trivial, le_of ⟨rfl, rfl, rfl, rfl, rfl⟩ ⟨rfl, rfl, rfl, rfl, rfl⟩ rfl⟩
              ·refine aord_all [4] (by kernel_rfl) rfl ?_
               refine aord_all [6] (by kernel_rfl) rfl ?_
               refine aord_done (by kernel_rfl) ?_
               exact ⟨(), trivial, le_of ⟨rfl, rfl, rfl, rfl, rfl⟩ ⟨rfl, rfl, rfl, rfl, rfl⟩ rfl⟩
             ·refine aord_all [3] (by kernel_rfl) rfl ?_
              refine aord_all [4] (by kernel_rfl) rfl ?_
              refine aord_all [6] (by kernel_rfl) rfl ?_
              refine aord_done (by kernel_rfl) ?_
              exact ⟨(), trivial, le_of ⟨rfl, rfl, rfl, rfl, rfl⟩ ⟨rfl, rfl, rfl, rfl, rfl⟩ rfl⟩
            refine And.intro ?_ ?_
            ·refine aord_all [1, 5] (by kernel_rfl) rfl ?_
             refine And.intro ?_ ?_
             ·refine Or.inl ?_
              refine And.intro (rfl) ?_
              refine Exists.intro _ (And.intro (refItem_c f hg.2.2 hf.1) ?_)
              refine aord_all [4, 5] (by kernel_rfl) rfl ?_
              refine And.intro ?_ ?_
              ·refine aord_all [5] (by kernel_rfl) rfl ?_
               refine aord_all [6] (by kernel_rfl) rfl ?_
               refine aord_done (by kernel_rfl) ?_
               exact ⟨(), trivial, le_of ⟨rfl, rfl, rfl, rfl, rfl⟩ ⟨rfl, rfl, rfl, rfl, rfl⟩ rfl⟩
              ·refine aord_all [4] (by kernel_rfl) rfl ?_
               refine aord_all [6] (by kernel_rfl) rfl ?_
               refine aord_done (by kernel_rfl) ?_
               exact ⟨(), trivial, le_of ⟨rfl, rfl, rfl, rfl, rfl⟩ ⟨rfl, rfl, rfl, rfl, rfl⟩ rfl⟩
             ·refine aord_all [1] (by kernel_rfl) rfl ?_
              refine Or.inl ?_
              refine And.intro (rfl) ?_
              refine Exists.intro _ (And.intro (refItem_c f hg.2.2 hf.1) ?_)
              refine aord_all [4] (by kernel_rfl) rfl ?_
              refine aord_all [6] (by kernel_rfl) rfl ?_
              refine aord_done (by kernel_rfl) ?_
              exact ⟨(), trivial, le_of ⟨rfl, rfl, rfl, rfl, rfl⟩ ⟨rfl, rfl, rfl, rfl, rfl⟩ rfl⟩
            ·refine aord_all [1, 3] (by kernel_rfl) rfl ?_
             refine And.intro ?_ ?_
             ·refine Or.inl ?_
              refine And.intro (rfl) ?_
              refine Exists.intro _ (And.intro (refItem_c f hg.2.2 hf.1) ?_)
              refine aord_all [3] (by kernel_rfl) rfl ?_
              refine aord_all [4] (by kernel_rfl) rfl ?_
              refine aord_all [6] (by kernel_rfl) rfl ?_
              refine aord_done (by kernel_rfl) ?_
              exact ⟨(), trivial, le_of ⟨rfl, rfl, rfl, rfl, rfl⟩ ⟨rfl, rfl, rfl, rfl, rfl⟩ rfl⟩
             ·refine aord_all [1] (by kernel_rfl) rfl ?_
              refine Or.inl ?_
              refine And.intro (rfl) ?_
              refine Exists.intro _ (And.intro (refItem_c f hg.2.2 hf.1) ?_)
              refine aord_all [4] (by kernel_rfl) rfl ?_
              refine aord_all [6] (by kernel_rfl) rfl ?_
              refine aord_done (by kernel_rfl) ?_
              exact ⟨(), trivial, le_of ⟨rfl, rfl, rfl, rfl, rfl⟩ ⟨rfl, rfl, rfl, rfl, rfl⟩ rfl⟩
           ·intro u hcut11
            refine acode_cut (fun (u : Unit) => True) (fun (u : Unit) => [(3, .one (.own 0 0)), (6, .one (.own 1 0)), (10, ii .i64 (atE es id)), (13, .one (.own 2 0)), (14, .one (.own 4 0))]) (fun (u : Unit) => [(0, .box 63 (toL rRL (es, n))), (1, .box 63 [.lit (.slice none 0 0), .lit (.int .i64 0)]), (2, .box 63 [.vec 3, .lit (.int .i64 (n + 1))]), (3, .vec 160 rEnt (insT es j (itmOf f, n) 0)), (4, .box 160 (toL rEnt (itmOf f, n)))]) 5 ?_ ?_
            ·refine acode_seq ?_
             refine acode_region ?_
             refine acode_cond rfl (fun h50 => ?_) (fun h50 => ?_)
             ·try simp only [decide_eq_true_eq] at h50
              try simp only [Int.toNat_natCast, dflt_sl, dflt_st, dflt_str, dflt_int, dflt_bool] at h50
              refine acode_region ?_
              refine And.intro (by first | exact app_le (by first | omega | (simp only [List.length_cons, List.length_nil]; omega) | (simp; omega)) (by decide) | omega | assumption | decide | (simp only [Int.toNat_natCast, dflt_sl, dflt_st, dflt_str, dflt_int, dflt_bool]; omega) | (simp <;> omega)) ?_
              exact ⟨(), trivial, le_of ⟨rfl, rfl, rfl, rfl, rfl⟩ ⟨rfl, rfl, rfl, (vec_eq (by rw [show j = 0 by omega, insT_0]; exact rfl)), rfl⟩ rfl⟩
             ·try simp only [decide_eq_false_iff_not, Int.not_lt] at h50
              try simp only [Int.toNat_natCast, dflt_sl, dflt_st, dflt_str, dflt_int, dflt_bool] at h50
              refine acode_skip ?_
              exact ⟨(), trivial, le_of ⟨rfl, rfl, rfl, rfl, rfl⟩ ⟨rfl, rfl, rfl, (vec_eq (by rw [insT_1 (by omega)])), rfl⟩ rfl⟩
            ·intro u hcut13
             refine acode_seq ?_
             refine acode_seq ?_
             refine acode_region ?_
             refine acode_block ?_
             refine acode_loopP (fun (i : Nat) => i ≤ es.length) (fun (i : Nat) => [(3, .one (.own 0 0)), (6, .one (.own 1 0)), (10, ii .i64 (atE es id)), (13, .one (.own 2 0)), (14, .one (.own 4 0)), (15, ii .i64 i)]) (fun (i : Nat) => [(0, .box 63 (toL rRL (es, n))), (1, .box 63 [.lit (.slice none 0 0), .lit (.int .i64 0)]), (2, .box 63 [.vec 3, .lit (.int .i64 (n + 1))]), (3, .vec 160 rEnt (insT es j (itmOf f, n) i)), (4, .box 160 (toL rEnt (itmOf f, n)))]) 5 (fun (i : Nat) => es.length - i) 0 (Nat.zero_le _) (le_of ⟨rfl, rfl, rfl, rfl, rfl, rfl⟩ ⟨rfl, rfl, rfl, rfl, rfl⟩ rfl) ?_
             intro i hI0
             refine acode_seq ?_
             refine acode_seq ?_
             refine acode_region ?_
             intro l14_3
             refine acode_cond rfl (fun h61 => ?_) (fun h61 => ?_)
             ·try simp only [decide_eq_true_eq] at h61
              try simp only [Int.toNat_natCast, dflt_sl, dflt_st, dflt_str, dflt_int, dflt_bool] at h61
              have hil : i < es.length := (by omega)
              have hsn := insT_snoc (j := j) (e := (itmOf f, n)) hil
              have hsl := insT_le es j (itmOf f, n) i
              refine acode_skip ?_
              refine acode_seq ?_
              refine acode_block ?_
              refine acode_seq ?_
              refine acode_ord rfl ?_
              refine aord_light 0 rfl rfl rfl (by kernel_rfl) ?_
              refine aord_light 2 rfl rfl rfl (by kernel_rfl) ?_
              refine aord_light 4 rfl rfl rfl (by kernel_rfl) ?_
              refine aord_all [1, 3] (by kernel_rfl) rfl ?_
              refine And.intro ?_ ?_
              ·refine aord_all [3] (by kernel_rfl) rfl ?_
               refine aord_light 5 rfl rfl rfl (by kernel_rfl) ?_
               refine And.intro (by first | omega | assumption | decide | (simp only []; omega) | (simp <;> omega)) ?_
               refine aord_all [6] (by kernel_rfl) rfl ?_
               refine aord_all [7] (by kernel_rfl) rfl ?_
               refine aord_all [8] (by kernel_rfl) rfl ?_
               refine And.intro (by exact app_le (show (insT es j (itmOf f, n) i).length + 1 ≤ 1000000000 by omega) (by decide)) ?_
               refine aord_light 9 rfl rfl rfl (by kernel_rfl) ?_
               refine aord_all [10] (by kernel_rfl) rfl ?_
               refine aord_done (by kernel_rfl) ?_
               refine acode_seq ?_
               refine acode_region ?_
               refine acode_cond rfl (fun h76 => ?_) (fun h76 => ?_)
               ·try simp only [decide_eq_true_eq] at h76
                try simp only [Int.toNat_natCast, dflt_sl, dflt_st, dflt_str, dflt_int, dflt_bool] at h76
                rw [if_pos (by omega)] at hsn
                refine acode_region ?_
                refine And.intro (by exact app_le (by rw [List.length_append]; show (insT es j (itmOf f, n) i).length + 1 + 1 ≤ 1000000000; omega) (by decide)) ?_
                refine acode_region ?_
                refine And.intro (by first | omega | assumption | decide | (simp only [Int.toNat_natCast, dflt_sl, dflt_st, dflt_str, dflt_int, dflt_bool]; omega) | (simp <;> omega)) ?_
                exact ⟨i + 1, by omega, by first | omega | (simp <;> omega), le_of ⟨rfl, rfl, rfl, rfl, rfl, (ii_eq (by omega))⟩ ⟨rfl, rfl, rfl, (vec_eq (by rw [hsn]; (try rw [List.append_assoc]); (try exact rfl))), rfl⟩ rfl⟩
               ·try simp only [decide_eq_false_iff_not] at h76
                try simp only [Int.toNat_natCast, dflt_sl, dflt_st, dflt_str, dflt_int, dflt_bool] at h76
                rw [if_neg (by omega)] at hsn
                refine acode_skip ?_
                refine acode_region ?_
                refine And.intro (by first | omega | assumption | decide | (simp only [Int.toNat_natCast, dflt_sl, dflt_st, dflt_str, dflt_int, dflt_bool]; omega) | (simp <;> omega)) ?_
                exact ⟨i + 1, by omega, by first | omega | (simp <;> omega), le_of ⟨rfl, rfl, rfl, rfl, rfl, (ii_eq (by omega))⟩ ⟨rfl, rfl, rfl, (vec_eq (by rw [hsn]; (try rw [List.append_assoc]); (try exact rfl))), rfl⟩ rfl⟩
              ·refine aord_light 5 rfl rfl rfl (by kernel_rfl) ?_
               refine And.intro (by first | omega | assumption | decide | (simp only []; omega) | (simp <;> omega)) ?_
               refine aord_all [1, 6] (by kernel_rfl) rfl ?_
               refine And.intro ?_ ?_
               ·refine aord_all [6] (by kernel_rfl) rfl ?_
                refine aord_all [7] (by kernel_rfl) rfl ?_
                refine aord_all [8] (by kernel_rfl) rfl ?_
                refine And.intro (by exact app_le (show (insT es j (itmOf f, n) i).length + 1 ≤ 1000000000 by omega) (by decide)) ?_
                refine aord_light 9 rfl rfl rfl (by kernel_rfl) ?_
                refine aord_all [10] (by kernel_rfl) rfl ?_
                refine aord_done (by kernel_rfl) ?_
                refine acode_seq ?_
                refine acode_region ?_
                refine acode_cond rfl (fun h76 => ?_) (fun h76 => ?_)
                ·try simp only [decide_eq_true_eq] at h76
                 try simp only [Int.toNat_natCast, dflt_sl, dflt_st, dflt_str, dflt_int, dflt_bool] at h76
                 rw [if_pos (by omega)] at hsn
                 refine acode_region ?_
                 refine And.intro (by exact app_le (by rw [List.length_append]; show (insT es j (itmOf f, n) i).length + 1 + 1 ≤ 1000000000; omega) (by decide)) ?_
                 refine acode_region ?_
                 refine And.intro (by first | omega | assumption | decide | (simp only [Int.toNat_natCast, dflt_sl, dflt_st, dflt_str, dflt_int, dflt_bool]; omega) | (simp <;> omega)) ?_
                 exact ⟨i + 1, by omega, by first | omega | (simp <;> omega), le_of ⟨rfl, rfl, rfl, rfl, rfl, (ii_eq (by omega))⟩ ⟨rfl, rfl, rfl, (vec_eq (by rw [hsn]; (try rw [List.append_assoc]); (try exact rfl))), rfl⟩ rfl⟩
                ·try simp only [decide_eq_false_iff_not] at h76
                 try simp only [Int.toNat_natCast, dflt_sl, dflt_st, dflt_str, dflt_int, dflt_bool] at h76
                 rw [if_neg (by omega)] at hsn
                 refine acode_skip ?_
                 refine acode_region ?_
                 refine And.intro (by first | omega | assumption | decide | (simp only [Int.toNat_natCast, dflt_sl, dflt_st, dflt_str, dflt_int, dflt_bool]; omega) | (simp <;> omega)) ?_
                 exact ⟨i + 1, by omega, by first | omega | (simp <;> omega), le_of ⟨rfl, rfl, rfl, rfl, rfl, (ii_eq (by omega))⟩ ⟨rfl, rfl, rfl, (vec_eq (by rw [hsn]; (try rw [List.append_assoc]); (try exact rfl))), rfl⟩ rfl⟩
               ·refine aord_all [1, 7] (by kernel_rfl) rfl ?_
                refine And.intro ?_ ?_
                ·refine aord_all [7] (by kernel_rfl) rfl ?_
                 refine aord_all [8] (by kernel_rfl) rfl ?_
                 refine And.intro (by exact app_le (show (insT es j (itmOf f, n) i).length + 1 ≤ 1000000000 by omega) (by decide)) ?_
                 refine aord_light 9 rfl rfl rfl (by kernel_rfl) ?_
                 refine aord_all [10] (by kernel_rfl) rfl ?_
                 refine aord_done (by kernel_rfl) ?_
                 refine acode_seq ?_
                 refine acode_region ?_
                 refine acode_cond rfl (fun h76 => ?_) (fun h76 => ?_)
                 ·try simp only [decide_eq_true_eq] at h76
                  try simp only [Int.toNat_natCast, dflt_sl, dflt_st, dflt_str, dflt_int, dflt_bool] at h76
                  rw [if_pos (by omega)] at hsn
                  refine acode_region ?_
                  refine And.intro (by exact app_le (by rw [List.length_append]; show (insT es j (itmOf f, n) i).length + 1 + 1 ≤ 1000000000; omega) (by decide)) ?_
                  refine acode_region ?_
                  refine And.intro (by first | omega | assumption | decide | (simp only [Int.toNat_natCast, dflt_sl, dflt_st, dflt_str, dflt_int, dflt_bool]; omega) | (simp <;> omega)) ?_
                  exact ⟨i + 1, by omega, by first | omega | (simp <;> omega), le_of ⟨rfl, rfl, rfl, rfl, rfl, (ii_eq (by omega))⟩ ⟨rfl, rfl, rfl, (vec_eq (by rw [hsn]; (try rw [List.append_assoc]); (try exact rfl))), rfl⟩ rfl⟩
                 ·try simp only [decide_eq_false_iff_not] at h76
                  try simp only [Int.toNat_natCast, dflt_sl, dflt_st, dflt_str, dflt_int, dflt_bool] at h76
                  rw [if_neg (by omega)] at hsn
                  refine acode_skip ?_
                  refine acode_region ?_
                  refine And.intro (by first | omega | assumption | decide | (simp only [Int.toNat_natCast, dflt_sl, dflt_st, dflt_str, dflt_int, dflt_bool]; omega) | (simp <;> omega)) ?_
                  exact ⟨i + 1, by omega, by first | omega | (simp <;> omega), le_of ⟨rfl, rfl, rfl, rfl, rfl, (ii_eq (by omega))⟩ ⟨rfl, rfl, rfl, (vec_eq (by rw [hsn]; (try rw [List.append_assoc]); (try exact rfl))), rfl⟩ rfl⟩
                ·refine aord_all [1] (by kernel_rfl) rfl ?_
                 refine aord_all [8] (by kernel_rfl) rfl ?_
                 refine And.intro (by exact app_le (show (insT es j (itmOf f, n) i).length + 1 ≤ 1000000000 by omega) (by decide)) ?_
                 refine aord_light 9 rfl rfl rfl (by kernel_rfl) ?_
                 refine aord_all [10] (by kernel_rfl) rfl ?_
                 refine aord_done (by kernel_rfl) ?_
                 refine acode_seq ?_
                 refine acode_region ?_
                 refine acode_cond rfl (fun h76 => ?_) (fun h76 => ?_)
                 ·try simp only [decide_eq_true_eq] at h76
                  try simp only [Int.toNat_natCast, dflt_sl, dflt_st, dflt_str, dflt_int, dflt_bool] at h76
                  rw [if_pos (by omega)] at hsn
                  refine acode_region ?_
                  refine And.intro (by exact app_le (by rw [List.length_append]; show (insT es j (itmOf f, n) i).length + 1 + 1 ≤ 1000000000; omega) (by decide)) ?_
                  refine acode_region ?_
                  refine And.intro (by first | omega | assumption | decide | (simp only [Int.toNat_natCast, dflt_sl, dflt_st, dflt_str, dflt_int, dflt_bool]; omega) | (simp <;> omega)) ?_
                  exact ⟨i + 1, by omega, by first | omega | (simp <;> omega), le_of ⟨rfl, rfl, rfl, rfl, rfl, (ii_eq (by omega))⟩ ⟨rfl, rfl, rfl, (vec_eq (by rw [hsn]; (try rw [List.append_assoc]); (try exact rfl))), rfl⟩ rfl⟩
                 ·try simp only [decide_eq_false_iff_not] at h76
                  try simp only [Int.toNat_natCast, dflt_sl, dflt_st, dflt_str, dflt_int, dflt_bool] at h76
                  rw [if_neg (by omega)] at hsn
                  refine acode_skip ?_
                  refine acode_region ?_
                  refine And.intro (by first | omega | assumption | decide | (simp only [Int.toNat_natCast, dflt_sl, dflt_st, dflt_str, dflt_int, dflt_bool]; omega) | (simp <;> omega)) ?_
                  exact ⟨i + 1, by omega, by first | omega | (simp <;> omega), le_of ⟨rfl, rfl, rfl, rfl, rfl, (ii_eq (by omega))⟩ ⟨rfl, rfl, rfl, (vec_eq (by rw [hsn]; (try rw [List.append_assoc]); (try exact rfl))), rfl⟩ rfl⟩
             ·try simp only [decide_eq_false_iff_not, Int.not_lt] at h61
              try simp only [Int.toNat_natCast, dflt_sl, dflt_st, dflt_str, dflt_int, dflt_bool] at h61
              refine acode_exit ?_
              refine acode_seq ?_
              refine acode_ord rfl ?_
              refine aord_light 1 rfl rfl rfl (by kernel_rfl) ?_
              refine aord_all [0, 2] (by kernel_rfl) rfl ?_
              refine And.intro ?_ ?_
              ·refine aord_all [2, 3] (by kernel_rfl) rfl ?_
               refine And.intro ?_ ?_
               ·refine aord_all [3] (by kernel_rfl) rfl ?_
                refine aord_light 4 rfl rfl rfl (by kernel_rfl) ?_
                refine aord_light 5 rfl rfl rfl (by kernel_rfl) ?_
                refine aord_light 6 rfl rfl rfl (by kernel_rfl) ?_
                refine aord_done (by kernel_rfl) ?_
                refine acode_frz [3] ?_
                refine acode_ret ?_
                rw [insT_all hj (by omega)]
                exact rfl
               ·refine aord_all [2] (by kernel_rfl) rfl ?_
                refine aord_light 4 rfl rfl rfl (by kernel_rfl) ?_
                refine aord_light 5 rfl rfl rfl (by kernel_rfl) ?_
                refine aord_light 6 rfl rfl rfl (by kernel_rfl) ?_
                refine aord_done (by kernel_rfl) ?_
                refine acode_frz [3] ?_
                refine acode_ret ?_
                rw [insT_all hj (by omega)]
                exact rfl
              ·refine aord_all [0] (by kernel_rfl) rfl ?_
               refine aord_all [3] (by kernel_rfl) rfl ?_
               refine aord_light 4 rfl rfl rfl (by kernel_rfl) ?_
               refine aord_light 5 rfl rfl rfl (by kernel_rfl) ?_
               refine aord_light 6 rfl rfl rfl (by kernel_rfl) ?_
               refine aord_done (by kernel_rfl) ?_
               refine acode_frz [3] ?_
               refine acode_ret ?_
               rw [insT_all hj (by omega)]
               exact rfl
end Q
end Ab
end Go.Proofs.YtnimhpgacmojiaaGreatDoor
