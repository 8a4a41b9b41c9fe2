/-
  A selector's rows: what the program's functions read of a line.
-/
import Derived.Test.YthlfbpmbkcoclaaDoorQUn
import Derived.Test.YthlfbpmbkcoclaaDoorAbOrd
import Derived.Test.YthlfbpmbkcoclaaDoorAbFunC
namespace Go.Proofs.YthlfbpmbkcoclaaDoor
open Go.RowKit
namespace Ab
set_option maxRecDepth 100000
namespace Q
theorem cut1_v (w : ByteArray) (r : List UInt8) (b : Bool) (hr : restOf w.data.toList = r) (hb : Lib.hasPrefix w.data.toList [33] = b) :
    ACall Tryd.prog 146 [is w, is ⟨#[33]⟩] (.tup [(false, [.lit (.string (bytes r))]), (false, [.lit (.bool b)])]) := by
  subst hr hb; exact cutPrefix_c w ⟨#[33]⟩
theorem sign_v (r : List UInt8) (k : Int) (hk : signL r 0 = k) (hr : r.length ≤ 1000000) : ACall Tryd.prog 147 [is (bytes r)] (ii .i64 k) := by
  have := sign_c (bytes r) hr
  rw [bytes_list, hk] at this; exact this
theorem signL_lt (l : List UInt8) (n : Int) (h0 : 0 ≤ n) (h : 0 ≤ signL l n) : n ≤ signL l n ∧ signL l n < n + l.length := by
  induction hk : l.length using Nat.strongRecOn generalizing l n with
  | ind m ih =>
    match l, hk with
    | [], _ => exact absurd h (by unfold signL; decide)
    | c :: r, hk =>
      by_cases hc : c = 92
      · subst hc
        rw [signL_slash] at h ⊢
        have hl : (r.drop 1).length ≤ r.length := by rw [List.length_drop]; omega
        simp only [List.length_cons] at hk
        have := ih (r.drop 1).length (by omega) (r.drop 1) (n + 2) (by omega) h rfl
        cases r with
        | nil => exact absurd h (by show ¬ 0 ≤ (-1 : Int); decide)
        | cons d r => simp only [List.length_cons, List.drop_succ_cons, List.drop_zero] at this hk ⊢; omega
      · rw [signL_other hc] at h ⊢
        simp only [List.length_cons] at hk
        split at h
        · rename_i hs; rw [if_pos hs]; omega
        · rename_i hs
          rw [if_neg hs]
          have := ih r.length (by omega) r (n + 1) (by omega) h rfl
          omega
theorem trim_len (l p : List UInt8) : (Lib.trimPrefix l p).length ≤ l.length := by
  unfold Lib.trimPrefix; split
  · rw [List.length_drop]; omega
  · exact Nat.le_refl _
def tupT (o : Option Term) : A := .tup [(true, toL rTerm (o.getD (false, ByteArray.empty, 0, ByteArray.empty))), (false, [.lit (.bool o.isSome)])]
theorem unescape_v (s : ByteArray) (l : List UInt8) (hl : s.data.toList = l) (hs : l.length ≤ 1000000) : ACall Tryd.prog 148 [is s] (is (bytes (unescL l))) := by
  subst hl; exact unescape_c s (by rw [size_list]; exact hs)
theorem indexB_le (l : List UInt8) (c : UInt8) : -1 ≤ Lib.indexByte l c ∧ Lib.indexByte l c < l.length := by
  refine ⟨Lib.indexByte_ge l c, ?_⟩
  by_cases h : 0 ≤ Lib.indexByte l c
  · have := indexB_lt h; omega
  · omega
theorem bytes_size (l : List UInt8) : (bytes l).size = l.length := by rw [size_list, bytes_list]
theorem extract_ls (s : ByteArray) (a b : Nat) : (s.extract a b).data.toList = (s.data.toList.drop a).take (b - a) := Lib.extract_data s a b
theorem term_c (w : ByteArray) (hw : w.size ≤ 1000000) : ACall Tryd.prog 112 [is w] (tupT (termP w.data.toList)) := by
  obtain ⟨r, hr⟩ : ∃ r, restOf w.data.toList = r := ⟨_, rfl⟩
  obtain ⟨b, hb⟩ : ∃ b, Lib.hasPrefix w.data.toList [33] = b := ⟨_, rfl⟩
  obtain ⟨k, hk⟩ : ∃ k, signL r 0 = k := ⟨_, rfl⟩
  have hrl : r.length ≤ 1000000 := by rw [← hr]; exact Nat.le_trans (trim_len _ _) (by rw [← size_list]; exact hw)
  have hP : termP w.data.toList = if k < 0 then none else some (b, bytes (unescL (r.take k.toNat)), Lib.indexByte SG (r.getD k.toNat 0) + 1, bytes (unescL (r.drop (k.toNat + 1)))) := by
    unfold termP; rw [hr, hb, hk]
  have hbs := bytes_size r
  refine acall_ofc (rs := [.cell 2 46, .tmp 3]) Tryd.func112 rfl rfl rfl teOk rfl ?_
  refine acode_seq ?_
  refine acode_region ?_
  refine acode_seq ?_
  refine acode_region ?_
  refine Or.inl ?_
  refine And.intro (rfl) ?_
  refine Exists.intro _ (And.intro (cut1_v w r b hr hb) ?_)
  refine acode_seq ?_
  refine acode_region ?_
  refine Or.inl ?_
  refine And.intro (rfl) ?_
  refine Exists.intro _ (And.intro (sign_v r k hk hrl) ?_)
  refine acode_seq ?_
  refine acode_seq ?_
  refine acode_region ?_
  refine acode_cond rfl (fun h15 => ?_) (fun h15 => ?_)
  · try simp only [decide_eq_true_eq] at h15
    try simp only [Int.toNat_natCast, dflt_sl, dflt_st, dflt_str, dflt_int, dflt_bool] at h15
    refine acode_seq ?_
    refine acode_region ?_
    refine acode_ret ?_
    rw [hP, if_pos (by omega)]
    rfl
  · try simp only [decide_eq_false_iff_not, Int.not_lt] at h15
    try simp only [Int.toNat_natCast, dflt_sl, dflt_st, dflt_str, dflt_int, dflt_bool] at h15
    have hlt := signL_lt r 0 (by decide) (by omega)
    rw [hk] at hlt
    obtain ⟨i, rfl⟩ := Int.eq_ofNat_of_zero_le h15
    have hil : i < r.length := by omega
    obtain ⟨j, hj⟩ : ∃ j, Lib.indexByte SG (r.getD i 0) = j := ⟨_, rfl⟩
    have hjl := indexB_le SG (r.getD i 0)
    rw [hj] at hjl
    have hj5 : j < 5 := hjl.2
    refine acode_skip ?_
    refine acode_seq ?_
    refine acode_ord rfl ?_
    refine aord_light 0 rfl rfl rfl (by kernel_rfl) ?_
    refine aord_light 1 rfl rfl rfl (by kernel_rfl) ?_
    refine aord_light 2 rfl rfl rfl (by kernel_rfl) ?_
    refine aord_light 3 rfl rfl rfl (by kernel_rfl) ?_
    refine And.intro (by first | omega | assumption | decide | (simp only [Int.toNat_natCast, dflt_sl, dflt_st, dflt_str, dflt_int, dflt_bool]; omega) | (simp; omega)) ?_
    refine aord_light 5 rfl rfl rfl (by kernel_rfl) ?_
    refine aord_light 6 rfl rfl rfl (by kernel_rfl) ?_
    refine aord_light 7 rfl rfl rfl (by kernel_rfl) ?_
    refine And.intro (by first | omega | assumption | decide | (simp only [Int.toNat_natCast, dflt_sl, dflt_st, dflt_str, dflt_int, dflt_bool]; omega) | (simp; omega)) ?_
    refine aord_light 10 rfl rfl rfl (by kernel_rfl) ?_
    refine aord_light 11 rfl rfl rfl (by kernel_rfl) ?_
    refine aord_light 12 rfl rfl rfl (by kernel_rfl) ?_
    refine And.intro (by first | omega | assumption | decide | (simp only [Int.toNat_natCast, dflt_sl, dflt_st, dflt_str, dflt_int, dflt_bool]; omega) | (simp; omega)) ?_
    refine aord_light 13 rfl rfl rfl (by kernel_rfl) ?_
    refine And.intro (by first | omega | assumption | decide | (simp only [Int.toNat_natCast, dflt_sl, dflt_st, dflt_str, dflt_int, dflt_bool]; omega) | (simp; omega)) ?_
    refine aord_all [4] (by kernel_rfl) rfl ?_
    refine Or.inl ?_
    refine And.intro (rfl) ?_
    refine Exists.intro _ (And.intro (unescape_v _ (r.take i) (by rw [extract_ls, bytes_list, Int.toNat_natCast]; simp) (by rw [List.length_take]; omega)) ?_)
    refine aord_all [8] (by kernel_rfl) rfl ?_
    refine Or.inl ?_
    refine And.intro (rfl) ?_
    refine Exists.intro _ (And.intro (indexByte_v _ (r.getD i 0) _ j (by rw [bytes_list, Int.toNat_natCast]) hj) ?_)
    refine aord_light 9 rfl rfl rfl (by kernel_rfl) ?_
    refine And.intro (by first | omega | assumption | decide | (simp only [Int.toNat_natCast, dflt_sl, dflt_st, dflt_str, dflt_int, dflt_bool]; omega) | (simp; omega)) ?_
    refine aord_all [14] (by kernel_rfl) rfl ?_
    refine Or.inl ?_
    refine And.intro (rfl) ?_
    refine Exists.intro _ (And.intro (unescape_v _ (r.drop (i + 1)) (by rw [extract_ls, bytes_list, hbs, show ((i : Int) + 1).toNat = i + 1 by omega, List.take_of_length_le (by rw [List.length_drop]; simp)]) (by rw [List.length_drop]; omega)) ?_)
    refine aord_all [15] (by kernel_rfl) rfl ?_
    refine aord_all [16] (by kernel_rfl) rfl ?_
    refine aord_light 17 rfl rfl rfl (by kernel_rfl) ?_
    refine aord_done (by kernel_rfl) ?_
    refine acode_ret ?_
    rw [hP, if_neg (by omega), Int.toNat_natCast, hj]
    rfl

theorem split_v (s p : ByteArray) (ws : List ByteArray) (hw : Lib.splitB p 0 (Lib.countB s p) s = ws) (hs : s.size ≤ 1000000) (h1 : 1 ≤ p.size) : ACall Tryd.prog 70 [is s, is p] (.one (.sl .str ws)) := by
  subst hw
  exact split_c s p (by omega) h1 (by have := Lib.countB_le p h1 _ s (Nat.le_refl _); unfold maxLen; omega)
theorem split_size (p : ByteArray) : ∀ (k : Nat) (s : ByteArray), ∀ x ∈ Lib.splitB p 0 k s, x.size ≤ s.size
  | 0, s, x, hx => by rw [List.mem_singleton.1 hx]; exact Nat.le_refl _
  | k + 1, s, x, hx => by
    unfold Lib.splitB at hx
    split at hx
    · rw [List.mem_singleton.1 hx]; exact Nat.le_refl _
    · rcases List.mem_cons.1 hx with rfl | hx
      · rw [ByteArray.size_extract]; omega
      · have := split_size p k _ x hx
        rw [ByteArray.size_extract] at this; omega
theorem split_len (p s : ByteArray) (h1 : 1 ≤ p.size) : (Lib.splitB p 0 (Lib.countB s p) s).length ≤ s.size + 1 := by
  rw [Lib.splitB_all p h1 0 _ s rfl]
  have := Lib.countB_le p h1 _ s (Nat.le_refl _); omega
theorem split_ls (p s : ByteArray) : (Lib.splitB p 0 (Lib.countB s p) s).map ls = Lib.split (ls s) (ls p) := Lib.splitB_data p 0 _ s
theorem rdAll_snoc {α : Type} {f : List UInt8 → Option α} {w : List UInt8} : ∀ {l : List (List UInt8)} {a : List α}, rdAll f l = some a → rdAll f (l ++ [w]) = (f w).map fun t => a ++ [t]
  | [], a, h => by
    cases h
    show rdAll f [w] = _
    unfold rdAll rdAll
    cases f w <;> rfl
  | v :: l, a, h => by
    rw [List.cons_append]
    unfold rdAll at h ⊢
    split at h
    · rename_i t b h1 h2
      cases h
      rw [h1, rdAll_snoc h2]
      cases f w <;> rfl
    · cases h
theorem rdAll_none {α : Type} {f : List UInt8 → Option α} {w : List UInt8} : ∀ {l : List (List UInt8)}, w ∈ l → f w = none → rdAll f l = none
  | v :: l, h, hf => by
    unfold rdAll
    rcases List.mem_cons.1 h with rfl | h
    · rw [hf]
    · rw [rdAll_none h hf]; split <;> first | rfl | simp_all
def tupR (o : Option (List Term)) : A := .tup [(false, [.sl rTerm (o.getD [])]), (false, [.lit (.bool o.isSome)])]
theorem map_take_succ {α β : Type} (g : α → β) (l : List α) (d : α) (i : Nat) (h : i < l.length) : (l.take (i + 1)).map g = (l.take i).map g ++ [g (l.getD i d)] := by
  rw [← take_snoc d h, List.map_append]; rfl
theorem tupR_eq {o o' : Option (List Term)} (h : o = o') : tupR o = tupR o' := by rw [h]
theorem ls_inj {s : ByteArray} {l : List UInt8} (h : ls s = l) : s = bytes l := by rw [← h, bytes_ls]
theorem row_c (line : ByteArray) (hl : line.size ≤ 900000) : ACall Tryd.prog 71 [is line] (tupR (rowP line.data.toList)) := by
  obtain ⟨ws, hws⟩ : ∃ ws, Lib.splitB ⟨#[32]⟩ 0 (Lib.countB line ⟨#[32]⟩) line = ws := ⟨_, rfl⟩
  have hsz : ∀ x ∈ ws, x.size ≤ 1000000 := fun x hx => Nat.le_trans (split_size _ _ _ x (hws ▸ hx)) (by omega)
  have hlen : ws.length ≤ line.size + 1 := by rw [← hws]; exact split_len _ _ (by decide)
  have hsp : ws.map ls = Lib.split (ls line) [32] := by rw [← hws]; exact split_ls _ _
  refine acall_of (rs := [2, 3]) Tryd.func71 rfl rfl rfl teOk rfl ?_
  refine acode_seq ?_
  refine acode_region ?_
  refine acode_seq ?_
  refine acode_region ?_
  refine acode_seq ?_
  refine acode_seq ?_
  refine acode_region ?_
  refine acode_cond rfl (fun h10 => ?_) (fun h10 => ?_)
  · try simp only [decide_eq_true_eq] at h10
    try simp only [Int.toNat_natCast, dflt_sl, dflt_st, dflt_str, dflt_int, dflt_bool] at h10
    refine acode_seq ?_
    refine acode_region ?_
    refine acode_nilvec 2 46 rTerm rfl ?_
    refine acode_ret ?_
    exact tupR_eq (o := some []) (by rw [h10]; rfl)
  · try simp only [decide_eq_false_iff_not] at h10
    try simp only [Int.toNat_natCast, dflt_sl, dflt_st, dflt_str, dflt_int, dflt_bool] at h10
    refine acode_skip ?_
    refine acode_seq ?_
    refine acode_seq ?_
    refine acode_nilvec 4 46 rTerm rfl ?_
    refine acode_region ?_
    refine Or.inl ?_
    refine And.intro (rfl) ?_
    refine Exists.intro _ (And.intro (split_v line _ ws hws (by omega) (by decide)) ?_)
    intro l4_2
    try simp only [Int.toNat_natCast, dflt_sl, dflt_st, dflt_str, dflt_int, dflt_bool] at l4_2
    refine acode_block ?_
    refine acode_loopP (fun (x : Nat × List Term) => x.1 ≤ ws.length ∧ x.2.length = x.1 ∧ rdAll termP ((ws.take x.1).map ls) = some x.2) (fun (x : Nat × List Term) => [(4, .one (.vec 0)), (12, .one (.sl .str ws)), (13, ii .i64 ws.length), (14, ii .i64 x.1)]) (fun (x : Nat × List Term) => [(0, .vec 46 rTerm x.2)]) 1 (fun (x : Nat × List Term) => ws.length - x.1) (0, []) (⟨Nat.zero_le _, rfl, rfl⟩) (le_of ⟨rfl, rfl, rfl, rfl⟩ rfl rfl) ?_
    intro ⟨i, o⟩ hI0
    simp only at hI0 ⊢
    obtain ⟨hi, ho, hn⟩ := hI0
    refine acode_seq ?_
    refine acode_region ?_
    refine acode_seq ?_
    refine acode_cond rfl (fun h15 => ?_) (fun h15 => ?_)
    · try simp only [decide_eq_true_eq] at h15
      try simp only [Int.toNat_natCast, dflt_sl, dflt_st, dflt_str, dflt_int, dflt_bool] at h15
      refine acode_skip ?_
      refine acode_seq ?_
      refine acode_block ?_
      refine acode_seq ?_
      refine acode_region ?_
      refine And.intro (by first | omega | assumption | decide | (simp only [Int.toNat_natCast, dflt_sl, dflt_st, dflt_str, dflt_int, dflt_bool]; omega) | (simp; omega)) ?_
      refine acode_seq ?_
      refine acode_region ?_
      refine Or.inl ?_
      refine And.intro (rfl) ?_
      refine Exists.intro _ (And.intro (term_c _ (hsz _ (getD_mem (show i < ws.length by omega) _))) ?_)
      refine acode_seq ?_
      refine acode_seq ?_
      refine acode_region ?_
      refine acode_cond rfl (fun h24 => ?_) (fun h24 => ?_)
      · try simp only [Bool.not_eq_true'] at h24
        try simp only [Int.toNat_natCast, dflt_str] at h24
        have hno : termP (ls (ws.getD i ByteArray.empty)) = none := by cases e : termP (ls (ws.getD i ByteArray.empty)); rfl; rw [e] at h24; cases h24
        refine acode_seq ?_
        refine acode_region ?_
        refine acode_nilvec 2 46 rTerm rfl ?_
        refine acode_ret ?_
        exact tupR_eq (o := none) (by unfold rowP; rw [if_neg (fun e => h10 (ls_inj e)), ← hsp]; exact (rdAll_none (List.mem_map.2 ⟨_, getD_mem (show i < ws.length by omega) _, rfl⟩) hno).symm)
      · try simp only [Bool.not_eq_false'] at h24
        try simp only [Int.toNat_natCast, dflt_str] at h24
        obtain ⟨t, ht⟩ : ∃ t, termP (ls (ws.getD i ByteArray.empty)) = some t := Option.isSome_iff_exists.1 h24
        refine acode_skip ?_
        refine acode_region ?_
        refine And.intro (by show (_ + 1) * 48 ≤ 140737488355328; omega) ?_
        refine acode_region ?_
        refine And.intro (by first | omega | assumption | decide | (simp only [Int.toNat_natCast, dflt_sl, dflt_st, dflt_str, dflt_int, dflt_bool]; omega) | (simp; omega)) ?_
        exact ⟨(i + 1, o ++ [(termP (ls (ws.getD i ByteArray.empty))).getD (false, ByteArray.empty, 0, ByteArray.empty)]), ⟨by simp only; omega, by simp; omega, by simp only; rw [map_take_succ ls ws ByteArray.empty i (by omega), rdAll_snoc hn, ht]; rfl⟩, by first | omega | (simp; omega), le_of ⟨rfl, rfl, rfl, (ii_eq (by simp only; omega))⟩ (vec_eq rfl) rfl⟩
    · try simp only [decide_eq_false_iff_not, Int.not_lt] at h15
      try simp only [Int.toNat_natCast, dflt_sl, dflt_st, dflt_str, dflt_int, dflt_bool] at h15
      refine acode_exit ?_
      refine acode_seq ?_
      refine acode_region ?_
      refine acode_ret ?_
      have hiw : i = ws.length := by omega
      rw [hiw, List.take_length] at hn
      exact tupR_eq (o := some o) (by unfold rowP; rw [if_neg (fun e => h10 (ls_inj e)), ← hsp]; exact hn.symm)
end Q
end Ab
end Go.Proofs.YthlfbpmbkcoclaaDoor
