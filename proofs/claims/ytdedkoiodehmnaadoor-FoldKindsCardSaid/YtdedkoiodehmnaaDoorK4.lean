/-
  The texts of this proof, joined: abstract values, the library, the functions of the program and what they compute (part 4). No condition.
-/
import Derived.Shelf.Vars
import Derived.KernelRfl
import Derived.Test.YtdedkoiodehmnaaDoorK1
import Derived.Test.YtdedkoiodehmnaaDoorK2
import Derived.Test.YtdedkoiodehmnaaDoorK3
namespace Go.Proofs.YtdedkoiodehmnaaDoor
open Go.RowKit
namespace Ab
set_option maxRecDepth 100000
namespace Q
theorem join_snoc {ps : List (List UInt8)} (q sep : List UInt8) (h : ps ≠ []) : Lib.join (ps ++ [q]) sep = Lib.join ps sep ++ (sep ++ q) := by
  induction ps with
  | nil => exact absurd rfl h
  | cons p r ih =>
    cases r with
    | nil => rw [List.cons_append, List.nil_append, join_two, Lib.join_one, Lib.join_one]; simp
    | cons a b => rw [List.cons_append, List.cons_append, join_two, join_two, ← List.cons_append, ih (by simp)]; simp
theorem parts_of {ps : List (List UInt8)} (h : ps ≠ []) (hn : ∀ p ∈ ps, 10 ∉ p) : partsL (Lib.join ps [10]) = ps := split_join (by simp) ps h fun p hp => clean_one (hn p hp)
theorem parts_ne (l : List UInt8) : partsL l ≠ [] := split_ne l [10]
theorem parts_ten (l : List UInt8) : partsL (l ++ [10]) = partsL l ++ [[]] := by
  have : l ++ [10] = Lib.join (partsL l ++ [[]]) [10] := by rw [join_snoc _ _ (parts_ne l), parts_join]; simp
  rw [this]
  exact parts_of (by simp) fun p hp => by
    rcases List.mem_append.1 hp with h | h
    · exact parts_no l p h
    · rw [List.mem_singleton.1 h]; simp
theorem join_last (ps : List (List UInt8)) (q r : List UInt8) : Lib.join (ps ++ [q ++ r]) [10] = Lib.join (ps ++ [q]) [10] ++ r := by
  cases ps with
  | nil => simp [Lib.join_one]
  | cons a b => rw [join_snoc _ _ (by simp), join_snoc _ _ (by simp)]; simp
theorem parts_last (l : List UInt8) : ∃ ps q, partsL l = ps ++ [q] := by
  cases h : partsL l with
  | nil => exact absurd h (parts_ne l)
  | cons a b => exact ⟨(a :: b).dropLast, (a :: b).getLast (by simp), (List.dropLast_concat_getLast (by simp)).symm⟩
theorem parts_one (l : List UInt8) {c : UInt8} (hc : c ≠ 10) : partsL (l ++ [c]) = (partsL l).set ((partsL l).length - 1) ((partsL l).getD ((partsL l).length - 1) [] ++ [c]) := by
  obtain ⟨ps, q, e⟩ := parts_last l
  have hno := parts_no l
  have hj := parts_join l
  rw [e] at hj hno
  have e2 : (partsL l).set ((partsL l).length - 1) ((partsL l).getD ((partsL l).length - 1) [] ++ [c]) = ps ++ [q ++ [c]] := by rw [e]; simp
  rw [e2, ← hj, ← join_last]
  exact parts_of (by simp) fun p hp => by
    rcases List.mem_append.1 hp with h | h
    · exact hno p (by simp [h])
    · rw [List.mem_singleton.1 h]
      simp only [List.mem_append, List.mem_singleton, not_or]
      exact ⟨hno q (by simp), fun e => hc e.symm⟩
theorem parts_len (l : List UInt8) : (partsL l).length ≤ l.length + 1 := by
  have := split_len (bytes [10]) (bytes l) (by decide)
  have h2 := congrArg List.length (split_ls (bytes [10]) (bytes l))
  rw [List.length_map] at h2
  rw [h2] at this
  unfold ls at this
  rw [bytes_list, bytes_list, bytes_size] at this
  exact this
theorem part_size (l : List UInt8) {x : ByteArray} (h : x ∈ (partsL l).map bytes) : x.size ≤ l.length := by
  obtain ⟨p, hp, rfl⟩ := List.mem_map.1 h
  rw [bytes_size]; exact split_mem hp
theorem partB_one (l : List UInt8) {c : UInt8} (hc : c ≠ 10) (k : Nat) (hk : k = (partsL l).length - 1) : ((partsL l).map bytes).set k (((partsL l).map bytes).getD k Rd.str.dflt ++ bytes [c]) = (partsL (l ++ [c])).map bytes := by
  subst hk
  have hlt : (partsL l).length - 1 < (partsL l).length := by have := List.length_pos_iff.2 (parts_ne l); omega
  rw [parts_one l hc, List.map_set, bytes_app]
  congr 2
  rw [List.getD_eq_getElem?_getD, List.getElem?_map, List.getD_eq_getElem?_getD, List.getElem?_eq_getElem hlt]; rfl
def partB (s : ByteArray) : List ByteArray := (partsL s.data.toList).map bytes
theorem refParts_c (s : ByteArray) (hs : s.size ≤ 1000000) : ACall Tryd.prog 80 [is s] (.one (.sl .str (partB s))) := by
  have hz := size_list s
  refine acall_of (rs := [2]) Tryd.func80 rfl rfl rfl teOk rfl ?_
  refine acode_seq ?_
  refine acode_region ?_
  refine acode_seq ?_
  refine acode_region ?_
  refine acode_seq ?_
  refine acode_seq ?_
  refine acode_region ?_
  refine acode_block ?_
  refine acode_loopP (fun (i : Nat) => i ≤ s.size) (fun (i : Nat) => [(0, is s), (3, .one (.vec 0)), (4, ii .i64 i)]) (fun (i : Nat) => [(0, .vec 9 .str ((partsL (s.data.toList.take i)).map bytes))]) 1 (fun (i : Nat) => s.size - i) 0 (Nat.zero_le _) (le_of ⟨rfl, rfl, rfl⟩ (vec_eq rfl) rfl) ?_
  intro i hI0
  have hi := hI0
  refine acode_seq ?_
  refine acode_seq ?_
  refine acode_region ?_
  refine acode_cond rfl (fun h9 => ?_) (fun h9 => ?_)
  · try simp only [decide_eq_true_eq] at h9
    try simp only [Int.toNat_natCast, dflt_sl, dflt_st, dflt_str, dflt_int, dflt_bool] at h9
    have hlt : i < s.data.toList.length := by omega
    have hpl := parts_len (s.data.toList.take i)
    have hti : (s.data.toList.take i).length ≤ i := by rw [List.length_take]; omega
    refine acode_skip ?_
    refine acode_seq ?_
    refine acode_block ?_
    refine acode_seq ?_
    refine acode_region ?_
    refine And.intro (by first | omega | assumption | decide | (simp only [Int.toNat_natCast, dflt_sl, dflt_st, dflt_str, dflt_int, dflt_bool]; omega) | (simp <;> omega)) ?_
    refine acode_cond rfl (fun h15 => ?_) (fun h15 => ?_)
    · try simp only [decide_eq_true_eq] at h15
      try simp only [Int.toNat_natCast] at h15
      refine acode_region ?_
      refine And.intro (by show (_ + 1) * 16 ≤ 140737488355328; rw [List.length_map]; omega) ?_
      refine acode_region ?_
      refine And.intro (by first | omega | assumption | decide | (simp only [Int.toNat_natCast, dflt_sl, dflt_st, dflt_str, dflt_int, dflt_bool]; omega) | (simp <;> omega)) ?_
      exact ⟨i + 1, by omega, by first | omega | (simp <;> omega), le_of ⟨rfl, rfl, (ii_eq (by omega))⟩ (vec_eq (by rw [← take_snoc 0 hlt, show s.data.toList.getD i 0 = 10 from u8_eq h15, parts_ten, List.map_append]; rfl)) rfl⟩
    · try simp only [decide_eq_false_iff_not] at h15
      try simp only [Int.toNat_natCast] at h15
      have hp1 := List.length_pos_iff.2 (parts_ne (s.data.toList.take i))
      have hmp : ((partsL (s.data.toList.take i)).map bytes).length = (partsL (s.data.toList.take i)).length := List.length_map _
      have hx : s.extract (i : Int).toNat ((i : Int) + 1).toNat = bytes [s.data.toList.getD i 0] := by rw [Int.toNat_natCast, show ((i : Int) + 1).toNat = i + 1 by omega, extract_one hlt]
      have hx1 : (s.extract (i : Int).toNat ((i : Int) + 1).toNat).size = 1 := by rw [hx]; rfl
      have hes : (((partsL (s.data.toList.take i)).map bytes).getD ((((partsL (s.data.toList.take i)).map bytes).length : Int) - 1).toNat Rd.str.dflt).size ≤ 1000000 := Nat.le_trans (part_size _ (getD_mem (by omega) _)) (by omega)
      refine acode_ord rfl ?_
      refine aord_light 0 rfl rfl rfl (by kernel_rfl) ?_
      refine aord_light 1 rfl rfl rfl (by kernel_rfl) ?_
      refine aord_light 4 rfl rfl rfl (by kernel_rfl) ?_
      refine aord_light 5 rfl rfl rfl (by kernel_rfl) ?_
      refine aord_light 10 rfl rfl rfl (by kernel_rfl) ?_
      refine aord_light 11 rfl rfl rfl (by kernel_rfl) ?_
      refine aord_light 12 rfl rfl rfl (by kernel_rfl) ?_
      refine aord_light 13 rfl rfl rfl (by kernel_rfl) ?_
      refine And.intro (by first | omega | assumption | decide | (simp only [Int.toNat_natCast, dflt_sl, dflt_st, dflt_str, dflt_int, dflt_bool]; omega) | (simp <;> omega)) ?_
      refine aord_light 14 rfl rfl rfl (by kernel_rfl) ?_
      refine And.intro (by first | omega | assumption | decide | (simp only [Int.toNat_natCast, dflt_sl, dflt_st, dflt_str, dflt_int, dflt_bool]; omega) | (simp <;> omega)) ?_
      refine aord_all [2, 6] (by kernel_rfl) rfl ?_
      refine And.intro ?_ ?_
      · intro l7_2
        try simp only [Int.toNat_natCast, dflt_sl, dflt_st, dflt_str, dflt_int, dflt_bool] at l7_2
        refine aord_light 3 rfl rfl rfl (by kernel_rfl) ?_
        refine And.intro (by first | omega | assumption | decide | (simp only [Int.toNat_natCast, dflt_sl, dflt_st, dflt_str, dflt_int, dflt_bool]; omega) | (simp <;> omega)) ?_
        refine aord_all [6] (by kernel_rfl) rfl ?_
        intro l7_6
        try simp only [Int.toNat_natCast, dflt_sl, dflt_st, dflt_str, dflt_int, dflt_bool] at l7_6
        refine aord_light 7 rfl rfl rfl (by kernel_rfl) ?_
        refine And.intro (by first | omega | assumption | decide | (simp only [Int.toNat_natCast, dflt_sl, dflt_st, dflt_str, dflt_int, dflt_bool]; omega) | (simp <;> omega)) ?_
        refine aord_light 8 rfl rfl rfl (by kernel_rfl) ?_
        refine And.intro (by first | omega | assumption | decide | (simp only [Int.toNat_natCast, dflt_sl, dflt_st, dflt_str, dflt_int, dflt_bool]; omega) | (simp <;> omega)) ?_
        refine aord_all [9] (by kernel_rfl) rfl ?_
        refine And.intro (by omega) ?_
        refine aord_light 15 rfl rfl rfl (by kernel_rfl) ?_
        refine And.intro (by first | omega | (simp only [ByteArray.size_append]; omega) | (unfold maxLen; (try simp only [ByteArray.size_append]); omega)) ?_
        refine aord_light 16 rfl rfl rfl (by kernel_rfl) ?_
        refine And.intro (by first | omega | assumption | decide | (simp only [Int.toNat_natCast, dflt_sl, dflt_st, dflt_str, dflt_int, dflt_bool]; omega) | (simp <;> omega)) ?_
        refine aord_all [17] (by kernel_rfl) rfl ?_
        refine And.intro (by omega) ?_
        refine aord_done (by kernel_rfl) ?_
        refine acode_region ?_
        refine And.intro (by first | omega | assumption | decide | (simp only [Int.toNat_natCast, dflt_sl, dflt_st, dflt_str, dflt_int, dflt_bool]; omega) | (simp <;> omega)) ?_
        exact ⟨i + 1, by omega, by first | omega | (simp <;> omega), le_of ⟨rfl, rfl, (ii_eq (by omega))⟩ (vec_eq (by rw [hx, ← take_snoc 0 hlt]; exact partB_one _ (fun e => h15 (by rw [e]; rfl)) _ (by omega))) rfl⟩
      · intro l7_6
        try simp only [Int.toNat_natCast, dflt_sl, dflt_st, dflt_str, dflt_int, dflt_bool] at l7_6
        refine aord_light 7 rfl rfl rfl (by kernel_rfl) ?_
        refine And.intro (by first | omega | assumption | decide | (simp only [Int.toNat_natCast, dflt_sl, dflt_st, dflt_str, dflt_int, dflt_bool]; omega) | (simp <;> omega)) ?_
        refine aord_light 8 rfl rfl rfl (by kernel_rfl) ?_
        refine And.intro (by first | omega | assumption | decide | (simp only [Int.toNat_natCast, dflt_sl, dflt_st, dflt_str, dflt_int, dflt_bool]; omega) | (simp <;> omega)) ?_
        refine aord_all [2, 9] (by kernel_rfl) rfl ?_
        refine And.intro ?_ ?_
        · intro l7_2
          try simp only [Int.toNat_natCast, dflt_sl, dflt_st, dflt_str, dflt_int, dflt_bool] at l7_2
          refine aord_light 3 rfl rfl rfl (by kernel_rfl) ?_
          refine And.intro (by first | omega | assumption | decide | (simp only [Int.toNat_natCast, dflt_sl, dflt_st, dflt_str, dflt_int, dflt_bool]; omega) | (simp <;> omega)) ?_
          refine aord_all [9] (by kernel_rfl) rfl ?_
          refine And.intro (by omega) ?_
          refine aord_light 15 rfl rfl rfl (by kernel_rfl) ?_
          refine And.intro (by first | omega | (simp only [ByteArray.size_append]; omega) | (unfold maxLen; (try simp only [ByteArray.size_append]); omega)) ?_
          refine aord_light 16 rfl rfl rfl (by kernel_rfl) ?_
          refine And.intro (by first | omega | assumption | decide | (simp only [Int.toNat_natCast, dflt_sl, dflt_st, dflt_str, dflt_int, dflt_bool]; omega) | (simp <;> omega)) ?_
          refine aord_all [17] (by kernel_rfl) rfl ?_
          refine And.intro (by omega) ?_
          refine aord_done (by kernel_rfl) ?_
          refine acode_region ?_
          refine And.intro (by first | omega | assumption | decide | (simp only [Int.toNat_natCast, dflt_sl, dflt_st, dflt_str, dflt_int, dflt_bool]; omega) | (simp <;> omega)) ?_
          exact ⟨i + 1, by omega, by first | omega | (simp <;> omega), le_of ⟨rfl, rfl, (ii_eq (by omega))⟩ (vec_eq (by rw [hx, ← take_snoc 0 hlt]; exact partB_one _ (fun e => h15 (by rw [e]; rfl)) _ (by omega))) rfl⟩
        · refine And.intro (by omega) ?_
          refine aord_light 15 rfl rfl rfl (by kernel_rfl) ?_
          refine And.intro (by first | omega | (simp only [ByteArray.size_append]; omega) | (unfold maxLen; (try simp only [ByteArray.size_append]); omega)) ?_
          refine aord_all [2] (by kernel_rfl) rfl ?_
          intro l7_2
          try simp only [Int.toNat_natCast, dflt_sl, dflt_st, dflt_str, dflt_int, dflt_bool] at l7_2
          refine aord_light 3 rfl rfl rfl (by kernel_rfl) ?_
          refine And.intro (by first | omega | assumption | decide | (simp only [Int.toNat_natCast, dflt_sl, dflt_st, dflt_str, dflt_int, dflt_bool]; omega) | (simp <;> omega)) ?_
          refine aord_light 16 rfl rfl rfl (by kernel_rfl) ?_
          refine And.intro (by first | omega | assumption | decide | (simp only [Int.toNat_natCast, dflt_sl, dflt_st, dflt_str, dflt_int, dflt_bool]; omega) | (simp <;> omega)) ?_
          refine aord_all [17] (by kernel_rfl) rfl ?_
          refine And.intro (by omega) ?_
          refine aord_done (by kernel_rfl) ?_
          refine acode_region ?_
          refine And.intro (by first | omega | assumption | decide | (simp only [Int.toNat_natCast, dflt_sl, dflt_st, dflt_str, dflt_int, dflt_bool]; omega) | (simp <;> omega)) ?_
          exact ⟨i + 1, by omega, by first | omega | (simp <;> omega), le_of ⟨rfl, rfl, (ii_eq (by omega))⟩ (vec_eq (by rw [hx, ← take_snoc 0 hlt]; exact partB_one _ (fun e => h15 (by rw [e]; rfl)) _ (by omega))) rfl⟩
  · try simp only [decide_eq_false_iff_not, Int.not_lt] at h9
    try simp only [Int.toNat_natCast, dflt_sl, dflt_st, dflt_str, dflt_int, dflt_bool] at h9
    refine acode_exit ?_
    refine acode_seq ?_
    refine acode_region ?_
    refine acode_ret ?_
    exact sl_eq (by rw [List.take_of_length_le (by omega)]; rfl)
theorem refParts_v (s : ByteArray) (ws : List ByteArray) (h : partB s = ws) (hs : s.size ≤ 1000000) : ACall Tryd.prog 80 [is s] (.one (.sl .str ws)) := by
  subst h; exact refParts_c s hs
theorem kind_bare {p : List UInt8} (h : 10 ∉ p) : kindL p = 1 ↔ p.all blankC = true := by
  unfold kindL
  rw [if_neg h]
  split
  · rename_i h2; exact ⟨fun _ => h2, fun _ => rfl⟩
  · rename_i h2
    refine ⟨fun h3 => ?_, fun h3 => absurd h3 h2⟩
    split at h3
    · cases h3
    · split at h3
      · cases h3
      · split at h3 <;> cases h3
theorem stuff_yes {p : List UInt8} (h : 10 ∉ p) (hk : kindL p = 1 ∨ p.getD 0 0 = 46) : stuffL p = 46 :: p := by
  unfold stuffL
  rw [if_pos]
  rw [hasPrefix_one]
  rcases hk with hk | hk
  · rw [(kind_bare h).1 hk]; rfl
  · cases p with
    | nil => rfl
    | cons a b => simp only [List.getD_cons_zero] at hk; rw [hk]; simp
theorem stuff_not {p : List UInt8} (h : 10 ∉ p) (hk : kindL p ≠ 1) (hd : p.getD 0 0 ≠ 46) : stuffL p = p := by
  unfold stuffL
  rw [if_neg]
  rw [hasPrefix_one, decide_eq_false hd, Bool.and_false, Bool.or_false]
  exact fun e => hk ((kind_bare h).2 e)
theorem refKind_v (s : ByteArray) (n : Int) (h : kindL s.data.toList = n) (hs : s.size ≤ 1000000000) : ACall Tryd.prog 81 [is s] (ii .i64 n) := by
  subst h; exact refKind_c s hs
theorem kind_pos {s : ByteArray} (h : 10 ∉ s.data.toList) (hk : ¬ kindL s.data.toList = 1) : 0 < s.size := by
  refine Nat.pos_of_ne_zero fun e => hk ((kind_bare h).2 ?_)
  rw [size_list] at e
  rw [List.eq_nil_of_length_eq_zero e]; rfl
theorem ref_dot {s : ByteArray} (h : 10 ∉ s.data.toList) (hk : kindL s.data.toList = 1 ∨ s.data.toList.getD 0 0 = 46) : (⟨#[32, 46]⟩ : ByteArray) ++ s = bytes (32 :: stuffL s.data.toList) := by
  rw [stuff_yes h hk, show (32 :: 46 :: s.data.toList) = [32, 46] ++ s.data.toList from rfl, bytes_app, show bytes s.data.toList = s from bytes_ls s]; rfl
theorem ref_bare {s : ByteArray} (h : 10 ∉ s.data.toList) (hk : ¬ kindL s.data.toList = 1) (hd : ¬ s.data.toList.getD 0 0 = 46) : (⟨#[32]⟩ : ByteArray) ++ s = bytes (32 :: stuffL s.data.toList) := by
  rw [stuff_not h hk hd, show (32 :: s.data.toList) = [32] ++ s.data.toList from rfl, bytes_app, show bytes s.data.toList = s from bytes_ls s]; rfl
theorem refLines_c (f : Fld) (hk : f.1.size ≤ 1000000) (hv : f.2.size ≤ 1000000) : ACall Tryd.prog 30 [.agg (toL rFld f)] (.one (.sl .str (lineB f.1 f.2))) := by
  obtain ⟨ws, hws⟩ : ∃ ws, partB f.2 = ws := ⟨_, rfl⟩
  have hsz : ∀ x ∈ ws, x.size ≤ 1000000 := fun x hx => Nat.le_trans (part_size _ (hws ▸ hx)) (by rw [← size_list]; exact hv)
  have hno : ∀ x ∈ ws, 10 ∉ x.data.toList := fun x hx => by
    rw [← hws] at hx
    obtain ⟨p, hp, rfl⟩ := List.mem_map.1 hx
    rw [bytes_list]; exact parts_no _ p hp
  have hsp : ws.map ls = partsL f.2.data.toList := by
    rw [← hws]; unfold partB
    rw [List.map_map]
    conv => rhs; rw [← List.map_id (partsL f.2.data.toList)]
    exact List.map_congr_left fun s _ => bytes_list s
  have hpos : 0 < ws.length := by
    rw [← List.length_map (f := ls), hsp]
    exact List.length_pos_iff.2 (parts_ne _)
  have hlen : ws.length ≤ 1000001 := by
    rw [← List.length_map (f := ls), hsp]
    have := parts_len f.2.data.toList
    rw [← size_list] at this; omega
  have hdl : (ws.drop 1).length = ws.length - 1 := List.length_drop
  obtain ⟨p0, hp0⟩ : ∃ p, ws.getD 0 ByteArray.empty = p := ⟨_, rfl⟩
  have hp0s : p0.size ≤ 1000000 := by rw [← hp0]; exact hsz _ (getD_mem hpos _)
  have h58 : ByteArray.size ⟨#[58]⟩ = 1 := rfl
  have h32 : ByteArray.size ⟨#[32]⟩ = 1 := rfl
  have h3246 : ByteArray.size ⟨#[32, 46]⟩ = 2 := rfl
  have hp0r : (ws.getD (Int.toNat 0) Rd.str.dflt).size ≤ 1000000 := hsz _ (getD_mem hpos _)
  refine acall_of (rs := [2]) Tryd.func30 rfl rfl rfl teOk rfl ?_
  refine acode_seq ?_
  refine acode_region ?_
  refine acode_seq ?_
  refine acode_region ?_
  refine Or.inl ?_
  refine And.intro (rfl) ?_
  refine Exists.intro _ (And.intro (refParts_v f.2 ws hws hv) ?_)
  refine acode_seq ?_
  refine acode_region ?_
  refine And.intro (by (have hk0 : ByteArray.size { data := #[58] } = 1 := rfl; first | (unfold maxLen; omega) | (simp only [ByteArray.size_append]; omega) | (unfold maxLen; (try simp only [ByteArray.size_append]); omega))) ?_
  refine acode_cut (fun (u : Unit) => True) (fun (u : Unit) => [(3, .one (.sl .str ws)), (4, is (bytes (firstL f.1.data.toList p0.data.toList)))]) (fun (u : Unit) => []) 1 ?_ ?_
  · refine acode_seq ?_
    refine acode_region ?_
    refine And.intro (by first | omega | assumption | decide | (simp only [Int.toNat_natCast, dflt_sl, dflt_st, dflt_str, dflt_int, dflt_bool]; omega) | (simp <;> omega)) ?_
    refine acode_cond rfl (fun h16 => ?_) (fun h16 => ?_)
    · try simp only [decide_eq_false_iff_not, Bool.not_eq_true'] at h16
      try simp only [dflt_str] at h16
      refine acode_region ?_
      refine And.intro (by (have hk0 : ByteArray.size { data := #[32] } = 1 := rfl; first | (unfold maxLen; omega) | (simp only [ByteArray.size_append]; omega) | (unfold maxLen; (try simp only [ByteArray.size_append]); omega))) ?_
      refine And.intro (by first | omega | assumption | decide | (simp only [Int.toNat_natCast, dflt_sl, dflt_st, dflt_str, dflt_int, dflt_bool]; omega) | (simp <;> omega)) ?_
      refine And.intro (by (have hk0 : ByteArray.size { data := #[32] } = 1 := rfl; first | (unfold maxLen; omega) | (simp only [ByteArray.size_append]; omega) | (unfold maxLen; (try simp only [ByteArray.size_append]); omega))) ?_
      exact ⟨(), trivial, le_of ⟨rfl, (is_eq (by rw [← hp0, ByteArray.append_assoc]; exact first_b _ _ h16))⟩ trivial rfl⟩
    · try simp only [decide_eq_true_eq, Bool.not_eq_false'] at h16
      try simp only [dflt_str] at h16
      refine acode_skip ?_
      exact ⟨(), trivial, le_of ⟨rfl, (is_eq (by rw [← hp0]; exact first_e _ _ h16))⟩ trivial rfl⟩
  · intro u hcut5
    refine acode_seq ?_
    refine acode_region ?_
    refine acode_seq ?_
    refine acode_seq ?_
    refine acode_region ?_
    refine acode_block ?_
    refine acode_loopP (fun (i : Nat) => i ≤ (ws.drop 1).length) (fun (i : Nat) => [(3, .one (.sl .str ws)), (5, .one (.vec 1)), (6, ii .i64 ((i : Int) + 1))]) (fun (i : Nat) => [(1, .vec 9 .str (bytes (firstL f.1.data.toList p0.data.toList) :: ((ws.drop 1).take i).map fun s => bytes (32 :: stuffL s.data.toList)))]) 2 (fun (i : Nat) => (ws.drop 1).length - i) 0 (Nat.zero_le _) (le_of ⟨rfl, rfl, rfl⟩ rfl rfl) ?_
    intro i hI0
    have hi := hI0
    refine acode_seq ?_
    refine acode_seq ?_
    refine acode_region ?_
    intro l7_2
    try simp only [Int.toNat_natCast, dflt_sl, dflt_st, dflt_str, dflt_int, dflt_bool] at l7_2
    refine acode_cond rfl (fun h28 => ?_) (fun h28 => ?_)
    · try simp only [decide_eq_true_eq] at h28
      try simp only [Int.toNat_natCast, dflt_sl, dflt_st, dflt_str, dflt_int, dflt_bool] at h28
      have hlt : i + 1 < ws.length := by omega
      have hxm : ws.getD ((i : Int) + 1).toNat Rd.str.dflt ∈ ws := getD_mem (by omega) _
      have hxs := hsz _ hxm
      refine acode_skip ?_
      refine acode_seq ?_
      refine acode_block ?_
      refine acode_seq ?_
      refine acode_region ?_
      refine And.intro (by first | omega | assumption | decide | (simp only [Int.toNat_natCast, dflt_sl, dflt_st, dflt_str, dflt_int, dflt_bool]; omega) | (simp <;> omega)) ?_
      refine Or.inl ?_
      refine And.intro (rfl) ?_
      refine Exists.intro _ (And.intro (refKind_v _ _ rfl (by omega)) ?_)
      refine And.intro (fun h => trivial) ?_
      refine And.intro (fun h => trivial) ?_
      refine And.intro (fun h => ⟨⟨⟨h, trivial⟩, ⟨h, trivial⟩, trivial⟩, by first | omega | decide | (simp only [Int.toNat_natCast, dflt_sl, dflt_st, dflt_str, dflt_int, dflt_bool]; omega) | (have h9 := of_decide_eq_true h; omega) | (simp [gq] at h; omega)⟩) ?_
      refine And.intro (fun h => ⟨⟨h, trivial⟩, trivial⟩) ?_
      refine And.intro (fun h => ⟨⟨⟨h, trivial⟩, trivial⟩, by have h7 := kind_pos (hno _ hxm) (of_decide_eq_false (by simpa [gq] using h)); omega⟩) ?_
      refine And.intro (fun h => ⟨⟨h, trivial⟩, trivial⟩) ?_
      refine And.intro (by first | (intro h; rw [h]; rfl) | (intro h; cases h)) ?_
      refine acode_cond rfl (fun h44 => ?_) (fun h44 => ?_)
      · try simp only [decide_eq_true_eq, Bool.or_eq_true] at h44
        try simp only [dflt_str] at h44
        refine acode_region ?_
        refine And.intro (by first | omega | assumption | decide | (simp only [Int.toNat_natCast, dflt_sl, dflt_st, dflt_str, dflt_int, dflt_bool]; omega) | (simp <;> omega)) ?_
        refine And.intro (by (have hk0 : ByteArray.size { data := #[32, 46] } = 2 := rfl; first | (unfold maxLen; omega) | (simp only [ByteArray.size_append]; omega) | (unfold maxLen; (try simp only [ByteArray.size_append]); omega))) ?_
        refine And.intro (by first | exact app_le (by first | omega | (simp only [List.length_cons, List.length_nil, List.length_map, List.length_take, List.length_drop]; omega) | (simp; omega)) (by decide) | omega | assumption | decide | (simp only [Int.toNat_natCast, dflt_sl, dflt_st, dflt_str, dflt_int, dflt_bool]; omega) | (simp <;> omega)) ?_
        refine acode_region ?_
        refine And.intro (by first | omega | assumption | decide | (simp only [Int.toNat_natCast, dflt_sl, dflt_st, dflt_str, dflt_int, dflt_bool]; omega) | (simp <;> omega)) ?_
        exact ⟨i + 1, by omega, by first | omega | (simp <;> omega), le_of ⟨rfl, rfl, (ii_eq (by omega))⟩ (vec_eq (map_next (fun s : ByteArray => bytes (32 :: stuffL s.data.toList)) ByteArray.empty (by omega) _ (by rw [drop_getD]; exact ref_dot (hno _ hxm) (h44.imp id (fun e => u8_eq (b := 46) e))) [_])) rfl⟩
      · try simp only [decide_eq_false_iff_not, Bool.or_eq_false_iff] at h44
        try simp only [dflt_str] at h44
        refine acode_region ?_
        refine And.intro (by first | omega | assumption | decide | (simp only [Int.toNat_natCast, dflt_sl, dflt_st, dflt_str, dflt_int, dflt_bool]; omega) | (simp <;> omega)) ?_
        refine And.intro (by (have hk0 : ByteArray.size { data := #[32] } = 1 := rfl; first | (unfold maxLen; omega) | (simp only [ByteArray.size_append]; omega) | (unfold maxLen; (try simp only [ByteArray.size_append]); omega))) ?_
        refine And.intro (by first | exact app_le (by first | omega | (simp only [List.length_cons, List.length_nil, List.length_map, List.length_take, List.length_drop]; omega) | (simp; omega)) (by decide) | omega | assumption | decide | (simp only [Int.toNat_natCast, dflt_sl, dflt_st, dflt_str, dflt_int, dflt_bool]; omega) | (simp <;> omega)) ?_
        refine acode_region ?_
        refine And.intro (by first | omega | assumption | decide | (simp only [Int.toNat_natCast, dflt_sl, dflt_st, dflt_str, dflt_int, dflt_bool]; omega) | (simp <;> omega)) ?_
        exact ⟨i + 1, by omega, by first | omega | (simp <;> omega), le_of ⟨rfl, rfl, (ii_eq (by omega))⟩ (vec_eq (map_next (fun s : ByteArray => bytes (32 :: stuffL s.data.toList)) ByteArray.empty (by omega) _ (by rw [drop_getD]; exact ref_bare (hno _ hxm) h44.1 (fun e => h44.2 (by rw [show (ws.getD ((i : Int) + 1).toNat ByteArray.empty).data.toList.getD (Int.toNat 0) 0 = 46 from e]; rfl))) [_])) rfl⟩
    · try simp only [decide_eq_false_iff_not, Int.not_lt] at h28
      try simp only [Int.toNat_natCast, dflt_sl, dflt_st, dflt_str, dflt_int, dflt_bool] at h28
      refine acode_exit ?_
      refine acode_seq ?_
      refine acode_region ?_
      refine acode_ret ?_
      exact sl_eq (by rw [List.take_of_length_le (by omega), ← lineB_eq hsp hpos, hp0])
end Q
end Ab
end Go.Proofs.YtdedkoiodehmnaaDoor
namespace Go.Proofs.YtdedkoiodehmnaaDoor
open Go.RowKit
namespace Ab
set_option maxRecDepth 100000
namespace Q
theorem tlines {k v : ByteArray} : (lineB k v).length = (linesL k.data.toList v.data.toList).length := by unfold lineB; rw [List.length_map]
theorem text_step (x e p : List UInt8) (g : ByteArray) (hg : g = bytes p) : bytes (x ++ e) ++ g ++ ⟨#[10]⟩ = bytes (x ++ (e ++ (p ++ [10]))) := by
  rw [hg, ← List.append_assoc, ← List.append_assoc, bytes_app _ [10], bytes_app _ p]; rfl
theorem refFold_c (l : List Fld) (hl : ∀ f ∈ l, checkF f = 0) (hn : l.length ≤ 1000) : ACall Tryd.prog 22 [.one (.sl rFld l)] (is (bytes (foldL l))) := by
  refine acall_of (rs := [2]) Tryd.func22 rfl rfl rfl teOk rfl ?_
  refine acode_seq ?_
  refine acode_region ?_
  refine acode_seq ?_
  refine acode_region ?_
  refine acode_seq ?_
  refine acode_seq ?_
  refine acode_region ?_
  refine acode_block ?_
  refine acode_loopP (fun (i : Nat) => i ≤ l.length) (fun (i : Nat) => [(0, .one (.sl rFld l)), (3, is (bytes (foldL (l.take i)))), (4, ii .i64 i)]) (fun (i : Nat) => []) 0 (fun (i : Nat) => l.length - i) 0 (Nat.zero_le _) (le_of ⟨rfl, rfl, rfl⟩ trivial rfl) ?_
  intro i hI0
  have hi := hI0
  refine acode_seq ?_
  refine acode_seq ?_
  refine acode_region ?_
  intro l3_2
  try simp only [Int.toNat_natCast, dflt_sl, dflt_st, dflt_str, dflt_int, dflt_bool] at l3_2
  refine acode_cond rfl (fun h10 => ?_) (fun h10 => ?_)
  · try simp only [decide_eq_true_eq] at h10
    try simp only [Int.toNat_natCast, dflt_sl, dflt_st, dflt_str, dflt_int, dflt_bool] at h10
    have hlt : i < l.length := by omega
    have hm := hl _ (getD_mem hlt (ByteArray.empty, ByteArray.empty))
    have hco := check_ok hm
    have hfl : (foldL (l.take i)).length ≤ 1000 * 5000000 := by refine Nat.le_trans (flat_le textL 5000000 _ fun f hf => (text_len (hl f (List.mem_of_mem_take hf))).1) (Nat.mul_le_mul_right _ (by rw [List.length_take]; omega))
    refine acode_skip ?_
    refine acode_seq ?_
    refine acode_block ?_
    refine acode_seq ?_
    refine acode_region ?_
    refine And.intro (by first | omega | assumption | decide | (simp only [Int.toNat_natCast, dflt_sl, dflt_st, dflt_str, dflt_int, dflt_bool]; omega) | (simp <;> omega)) ?_
    refine Or.inl ?_
    refine And.intro (rfl) ?_
    refine Exists.intro _ (And.intro (refLines_c (l.getD i (ByteArray.empty, ByteArray.empty)) (by omega) (by omega)) ?_)
    intro l5_5
    try simp only [Int.toNat_natCast, dflt_sl, dflt_st, dflt_str, dflt_int, dflt_bool] at l5_5
    refine acode_block ?_
    refine acode_loopP (fun (k : Nat) => k ≤ (lineB (l.getD i (ByteArray.empty, ByteArray.empty)).1 (l.getD i (ByteArray.empty, ByteArray.empty)).2).length) (fun (k : Nat) => [(0, .one (.sl rFld l)), (3, is (bytes (foldL (l.take i) ++ endL ((linesL (l.getD i (ByteArray.empty, ByteArray.empty)).1.data.toList (l.getD i (ByteArray.empty, ByteArray.empty)).2.data.toList).take k)))), (4, ii .i64 i), (17, .one (.sl .str (lineB (l.getD i (ByteArray.empty, ByteArray.empty)).1 (l.getD i (ByteArray.empty, ByteArray.empty)).2))), (18, ii .i64 (lineB (l.getD i (ByteArray.empty, ByteArray.empty)).1 (l.getD i (ByteArray.empty, ByteArray.empty)).2).length), (19, ii .i64 k)]) (fun (k : Nat) => []) 0 (fun (k : Nat) => (lineB (l.getD i (ByteArray.empty, ByteArray.empty)).1 (l.getD i (ByteArray.empty, ByteArray.empty)).2).length - k) 0 (Nat.zero_le _) (le_of ⟨rfl, (is_eq (by simp [endL])), rfl, rfl, rfl, rfl⟩ trivial rfl) ?_
    intro k hI2
    have hk := hI2
    refine acode_seq ?_
    refine acode_region ?_
    refine acode_seq ?_
    refine acode_cond rfl (fun h20 => ?_) (fun h20 => ?_)
    · try simp only [decide_eq_true_eq] at h20
      try simp only [Int.toNat_natCast, dflt_sl, dflt_st, dflt_str, dflt_int, dflt_bool] at h20
      have hlk : k < (lineB (l.getD i (ByteArray.empty, ByteArray.empty)).1 (l.getD i (ByteArray.empty, ByteArray.empty)).2).length := by omega
      have hg := lineB_get hlk
      have hlk2 : k < (linesL (l.getD i (ByteArray.empty, ByteArray.empty)).1.data.toList (l.getD i (ByteArray.empty, ByteArray.empty)).2.data.toList).length := by rw [tlines] at hlk; exact hlk
      have hgs : ((lineB (l.getD i (ByteArray.empty, ByteArray.empty)).1 (l.getD i (ByteArray.empty, ByteArray.empty)).2).getD k ByteArray.empty).size ≤ 2000 := by rw [hg, bytes_size]; have h2 := hco.2.1; have h3 := hco.2.2; rw [size_list] at h2 h3; exact (line_len h3 h2).2 _ (getD_mem hlk2 _)
      have hen := (text_len hm).2 k
      have h10 : ByteArray.size ⟨#[10]⟩ = 1 := rfl
      have hps : (bytes (foldL (l.take i) ++ endL ((linesL (l.getD i (ByteArray.empty, ByteArray.empty)).1.data.toList (l.getD i (ByteArray.empty, ByteArray.empty)).2.data.toList).take k))).size ≤ 6000000000 := by rw [bytes_size, List.length_append]; omega
      have hgs' : ((lineB (l.getD i (ByteArray.empty, ByteArray.empty)).1 (l.getD i (ByteArray.empty, ByteArray.empty)).2).getD (k : Int).toNat Rd.str.dflt).size ≤ 2000 := hgs
      refine acode_skip ?_
      refine acode_seq ?_
      refine acode_block ?_
      refine acode_seq ?_
      refine acode_region ?_
      refine And.intro (by first | omega | assumption | decide | (simp only [Int.toNat_natCast, dflt_sl, dflt_st, dflt_str, dflt_int, dflt_bool]; omega) | (simp <;> omega)) ?_
      refine acode_region ?_
      refine And.intro (by first | omega | (simp only [ByteArray.size_append]; omega) | (unfold maxLen; (try simp only [ByteArray.size_append]); omega)) ?_
      refine And.intro (by (have hk0 : ByteArray.size { data := #[10] } = 1 := rfl; first | (unfold maxLen; omega) | (simp only [ByteArray.size_append]; omega) | (unfold maxLen; (try simp only [ByteArray.size_append]); omega))) ?_
      refine acode_region ?_
      refine And.intro (by first | omega | assumption | decide | (simp only [Int.toNat_natCast, dflt_sl, dflt_st, dflt_str, dflt_int, dflt_bool]; omega) | (simp <;> omega)) ?_
      exact ⟨k + 1, by omega, by first | omega | (simp <;> omega), le_of ⟨rfl, (is_eq (by rw [endL_snoc _ _ hlk2]; exact text_step _ _ _ _ hg)), rfl, rfl, rfl, (ii_eq (by omega))⟩ trivial rfl⟩
    · try simp only [decide_eq_false_iff_not, Int.not_lt] at h20
      try simp only [Int.toNat_natCast, dflt_sl, dflt_st, dflt_str, dflt_int, dflt_bool] at h20
      refine acode_exit ?_
      refine acode_region ?_
      refine And.intro (by first | omega | assumption | decide | (simp only [Int.toNat_natCast, dflt_sl, dflt_st, dflt_str, dflt_int, dflt_bool]; omega) | (simp <;> omega)) ?_
      exact ⟨i + 1, by omega, by first | omega | (simp <;> omega), le_of ⟨rfl, (is_eq (by rw [foldL_snoc l i (ByteArray.empty, ByteArray.empty) hlt, show List.take k (linesL (l.getD i (ByteArray.empty, ByteArray.empty)).1.data.toList (l.getD i (ByteArray.empty, ByteArray.empty)).2.data.toList) = linesL (l.getD i (ByteArray.empty, ByteArray.empty)).1.data.toList (l.getD i (ByteArray.empty, ByteArray.empty)).2.data.toList from List.take_of_length_le (by rw [← tlines]; omega)]; rfl)), (ii_eq (by omega))⟩ trivial rfl⟩
  · try simp only [decide_eq_false_iff_not, Int.not_lt] at h10
    try simp only [Int.toNat_natCast, dflt_sl, dflt_st, dflt_str, dflt_int, dflt_bool] at h10
    refine acode_exit ?_
    refine acode_seq ?_
    refine acode_region ?_
    refine acode_ret ?_
    exact is_eq (by rw [List.take_of_length_le (by omega)])
theorem copies_c (l : List Fld) (hn : l.length ≤ 1000) : ACall Tryd.prog 17 [.one (.sl rFld l)] (.one (.sl rFld l)) := by
  refine acall_of (rs := [2]) Tryd.func17 rfl rfl rfl teOk rfl ?_
  refine acode_seq ?_
  refine acode_region ?_
  refine acode_seq ?_
  refine acode_region ?_
  refine And.intro (by first | exact app_le (by first | omega | (simp only [List.length_nil]; omega) | (simp; omega)) (by decide) | omega | assumption | decide | (simp only [Int.toNat_natCast, dflt_sl, dflt_st, dflt_str, dflt_int, dflt_bool]; omega) | (simp <;> omega)) ?_
  refine acode_ret ?_
  exact sl_eq (by rfl)
theorem list_ext_take {α : Type} {a b : List α} {i : Nat} (d : α) (ha : i < a.length) (hb : i < b.length) (h : a.take i = b.take i) (he : a.getD i d = b.getD i d) : a.take (i + 1) = b.take (i + 1) := by
  rw [← take_snoc d ha, ← take_snoc d hb, h, he]
theorem ne_at {α : Type} {a b : List α} {i : Nat} (d : α) (he : a.getD i d ≠ b.getD i d) : ¬ a = b := fun e => he (by rw [e])
theorem fields_c (a b : List Fld) : ACall Tryd.prog 19 [.one (.sl rFld a), .one (.sl rFld b)] (ib (decide (a = b))) := by
  refine acall_of (rs := [4]) Tryd.func19 rfl rfl rfl teOk rfl ?_
  refine acode_seq ?_
  refine acode_region ?_
  refine acode_seq ?_
  refine acode_seq ?_
  refine acode_region ?_
  intro l1_1
  try simp only [Int.toNat_natCast, dflt_sl, dflt_st, dflt_str, dflt_int, dflt_bool] at l1_1
  intro l1_3
  try simp only [Int.toNat_natCast, dflt_sl, dflt_st, dflt_str, dflt_int, dflt_bool] at l1_3
  refine acode_cond rfl (fun h10 => ?_) (fun h10 => ?_)
  · try simp only [decide_eq_false_iff_not, Bool.not_eq_true'] at h10
    try simp only [Int.toNat_natCast, dflt_sl, dflt_st, dflt_str, dflt_int, dflt_bool] at h10
    refine acode_seq ?_
    refine acode_region ?_
    refine acode_ret ?_
    exact ib_eq (decide_eq_false (fun e => by rw [e] at h10; omega)).symm
  · try simp only [decide_eq_true_eq, Bool.not_eq_false'] at h10
    try simp only [Int.toNat_natCast, dflt_sl, dflt_st, dflt_str, dflt_int, dflt_bool] at h10
    refine acode_skip ?_
    refine acode_seq ?_
    refine acode_seq ?_
    refine acode_region ?_
    intro l3_1
    try simp only [Int.toNat_natCast, dflt_sl, dflt_st, dflt_str, dflt_int, dflt_bool] at l3_1
    refine acode_block ?_
    refine acode_loopP (fun (i : Nat) => i ≤ a.length ∧ a.take i = b.take i) (fun (i : Nat) => [(0, .one (.sl rFld a)), (1, .one (.sl rFld b)), (12, ii .i64 a.length), (13, ii .i64 i)]) (fun (i : Nat) => []) 0 (fun (i : Nat) => a.length - i) 0 (⟨Nat.zero_le _, by simp⟩) (le_of ⟨rfl, rfl, rfl, rfl⟩ trivial rfl) ?_
    intro i hI0
    obtain ⟨hi, ht⟩ := hI0
    refine acode_seq ?_
    refine acode_region ?_
    refine acode_seq ?_
    refine acode_cond rfl (fun h14 => ?_) (fun h14 => ?_)
    · try simp only [decide_eq_true_eq] at h14
      try simp only [Int.toNat_natCast, dflt_sl, dflt_st, dflt_str, dflt_int, dflt_bool] at h14
      have hla : i < a.length := by omega
      have hlb : i < b.length := by omega
      refine acode_skip ?_
      refine acode_seq ?_
      refine acode_block ?_
      refine acode_seq ?_
      refine acode_region ?_
      refine acode_seq ?_
      refine acode_draw rfl (by kernel_rfl) ?_
      refine And.intro (by first | omega | assumption | decide | (simp only [Int.toNat_natCast, dflt_sl, dflt_st, dflt_str, dflt_int, dflt_bool]; omega) | (simp <;> omega)) ?_
      refine And.intro (by first | omega | assumption | decide | (simp only [Int.toNat_natCast, dflt_sl, dflt_st, dflt_str, dflt_int, dflt_bool]; omega) | (simp <;> omega)) ?_
      refine And.intro (by rfl) ?_
      refine acode_cond rfl (fun h24 => ?_) (fun h24 => ?_)
      · try simp only [decide_eq_false_iff_not, Bool.not_eq_true', Bool.and_eq_false_iff] at h24
        try simp only [Int.toNat_natCast, dflt_st, dflt_str] at h24
        refine acode_seq ?_
        refine acode_region ?_
        refine acode_ret ?_
        exact ib_eq (decide_eq_false (ne_at (i := i) (ByteArray.empty, ByteArray.empty) (fun e => h24.elim (fun h => h (congrArg Prod.fst e)) (fun h => h (congrArg Prod.snd e))))).symm
      · try simp only [decide_eq_true_eq, Bool.and_eq_true, Bool.not_eq_false'] at h24
        try simp only [Int.toNat_natCast, dflt_st, dflt_str] at h24
        refine acode_skip ?_
        refine acode_region ?_
        refine And.intro (by first | omega | assumption | decide | (simp only [Int.toNat_natCast, dflt_sl, dflt_st, dflt_str, dflt_int, dflt_bool]; omega) | (simp <;> omega)) ?_
        exact ⟨i + 1, ⟨by omega, list_ext_take (ByteArray.empty, ByteArray.empty) hla hlb ht (Prod.ext h24.1 h24.2)⟩, by first | omega | (simp <;> omega), le_of ⟨rfl, rfl, rfl, (ii_eq (by omega))⟩ trivial rfl⟩
    · try simp only [decide_eq_false_iff_not, Int.not_lt] at h14
      try simp only [Int.toNat_natCast, dflt_sl, dflt_st, dflt_str, dflt_int, dflt_bool] at h14
      refine acode_exit ?_
      refine acode_seq ?_
      refine acode_region ?_
      refine acode_ret ?_
      exact ib_eq (decide_eq_true (by rw [List.take_of_length_le (by omega), List.take_of_length_le (by omega)] at ht; exact ht)).symm
abbrev rFault : Rd (Int × Value) := .st (.int .i64) .raw
def errF (at_ n : Int) : C := .ifc 97 (.addr rFault (at_, .iface 57 (.int .i64 n)))
theorem num_nil : ACall Tryd.prog 21 [.one (.lit .nilIface)] (ii .i64 0) := by
  refine acall_of (rs := [2]) Tryd.func21 rfl rfl rfl teOk rfl ?_
  refine acode_seq ?_
  refine acode_region ?_
  refine acode_seq ?_
  refine acode_seq ?_
  refine acode_region ?_
  refine acode_block ?_
  refine acode_loopP (fun (u : Unit) => True) (fun (u : Unit) => [(0, .one (.lit .nilIface)), (7, ii .i64 0)]) (fun (u : Unit) => []) 0 (fun (u : Unit) => 0) () (trivial) (le_of ⟨rfl, rfl⟩ trivial rfl) ?_
  intro u hI0
  refine acode_seq ?_
  refine acode_region ?_
  refine acode_seq ?_
  refine acode_cond rfl (fun h8 => ?_) (fun h8 => ?_)
  · try simp only [decide_eq_true_eq] at h8
    try simp only [Int.toNat_natCast, dflt_sl, dflt_st, dflt_str, dflt_int, dflt_bool] at h8
    refine acode_skip ?_
    refine acode_seq ?_
    refine acode_block ?_
    refine acode_seq ?_
    refine acode_seq ?_
    refine acode_region ?_
    refine acode_cond rfl (fun h10 => ?_) (fun h10 => ?_)
    · try simp only [Bool.not_eq_true'] at h10
      try simp only [Int.toNat_natCast, dflt_sl, dflt_st, dflt_str, dflt_int, dflt_bool] at h10
      refine acode_seq ?_
      refine acode_region ?_
      refine acode_ret ?_
      rfl
    · try simp only [Bool.not_eq_false'] at h10
      try simp only [Int.toNat_natCast, dflt_sl, dflt_st, dflt_str, dflt_int, dflt_bool] at h10
      cases h10
  · try simp only [decide_eq_false_iff_not, Int.not_lt] at h8
    try simp only [Int.toNat_natCast, dflt_sl, dflt_st, dflt_str, dflt_int, dflt_bool] at h8
    cases h8
theorem num_errno (n : Int) (hn : n ≠ 0) : ACall Tryd.prog 21 [.one (errN n)] (ii .i64 n) := by
  refine acall_of (rs := [2]) Tryd.func21 rfl rfl rfl teOk rfl ?_
  refine acode_seq ?_
  refine acode_region ?_
  refine acode_seq ?_
  refine acode_seq ?_
  refine acode_region ?_
  refine acode_block ?_
  refine acode_loopP (fun (u : Unit) => True) (fun (u : Unit) => [(0, .one (errN n)), (7, ii .i64 0)]) (fun (u : Unit) => []) 0 (fun (u : Unit) => 0) () (trivial) (le_of ⟨rfl, rfl⟩ trivial rfl) ?_
  intro u hI0
  refine acode_seq ?_
  refine acode_region ?_
  refine acode_seq ?_
  refine acode_cond rfl (fun h8 => ?_) (fun h8 => ?_)
  · try simp only [decide_eq_true_eq] at h8
    try simp only [Int.toNat_natCast, dflt_sl, dflt_st, dflt_str, dflt_int, dflt_bool] at h8
    refine acode_skip ?_
    refine acode_seq ?_
    refine acode_block ?_
    refine acode_seq ?_
    refine acode_seq ?_
    refine acode_region ?_
    refine acode_cond rfl (fun h10 => ?_) (fun h10 => ?_)
    · try simp only [decide_eq_true_eq, decide_eq_false_iff_not, Bool.and_eq_true, Bool.not_eq_true', Bool.not_eq_false', Bool.or_eq_false_iff, Bool.or_eq_true, Bool.and_eq_false_iff, Int.not_lt, Int.not_le] at h10
      try simp only [Int.toNat_natCast, dflt_sl, dflt_st, dflt_str, dflt_int, dflt_bool] at h10
      cases h10
    · skip
      refine acode_skip ?_
      refine acode_seq ?_
      refine acode_seq ?_
      refine acode_region ?_
      refine acode_seq ?_
      refine acode_region ?_
      refine And.intro (fun h => trivial) ?_
      refine And.intro (fun h => ⟨⟨h, trivial⟩, trivial⟩) ?_
      refine And.intro (by exact fun h => h) ?_
      refine acode_cond rfl (fun h20 => ?_) (fun h20 => ?_)
      · try simp only [decide_eq_false_iff_not, Bool.and_eq_true, Bool.not_eq_true'] at h20
        try simp only [Int.toNat_natCast, dflt_sl, dflt_st, dflt_str, dflt_int, dflt_bool] at h20
        refine acode_seq ?_
        refine acode_region ?_
        refine acode_ret ?_
        rfl
      · try simp only [decide_eq_true_eq, Bool.not_eq_false', Bool.and_eq_false_iff] at h20
        try simp only [Int.toNat_natCast, dflt_sl, dflt_st, dflt_str, dflt_int, dflt_bool] at h20
        exact absurd (h20.resolve_left (fun e => by cases e)) hn
  · try simp only [decide_eq_false_iff_not, Int.not_lt] at h8
    try simp only [Int.toNat_natCast, dflt_sl, dflt_st, dflt_str, dflt_int, dflt_bool] at h8
    cases h8
theorem num_fault (at_ n : Int) (hn : n ≠ 0) : ACall Tryd.prog 21 [.one (errF at_ n)] (ii .i64 n) := by
  refine acall_of (rs := [2]) Tryd.func21 rfl rfl rfl teOk rfl ?_
  refine acode_seq ?_
  refine acode_region ?_
  refine acode_seq ?_
  refine acode_seq ?_
  refine acode_region ?_
  refine acode_block ?_
  refine acode_loopP (fun (b : Bool) => True) (fun (b : Bool) => [(0, cond b (.one (errN n)) (.one (errF at_ n))), (7, ii .i64 (cond b 1 0))]) (fun (b : Bool) => []) 0 (fun (b : Bool) => cond b 0 1) false (trivial) (le_of ⟨rfl, rfl⟩ trivial rfl) ?_
  intro b hI0
  refine acode_seq ?_
  cases b
  · refine acode_region ?_
    refine acode_seq ?_
    refine acode_cond rfl (fun h8 => ?_) (fun h8 => ?_)
    · try simp only [decide_eq_true_eq] at h8
      try simp only [Int.toNat_natCast, dflt_sl, dflt_st, dflt_str, dflt_int, dflt_bool] at h8
      refine acode_skip ?_
      refine acode_seq ?_
      refine acode_block ?_
      refine acode_seq ?_
      refine acode_seq ?_
      refine acode_region ?_
      refine acode_cond rfl (fun h10 => ?_) (fun h10 => ?_)
      · try simp only [decide_eq_true_eq, decide_eq_false_iff_not, Bool.and_eq_true, Bool.not_eq_true', Bool.not_eq_false', Bool.or_eq_false_iff, Bool.or_eq_true, Bool.and_eq_false_iff, Int.not_lt, Int.not_le] at h10
        try simp only [Int.toNat_natCast, dflt_sl, dflt_st, dflt_str, dflt_int, dflt_bool] at h10
        cases h10
      · skip
        refine acode_skip ?_
        refine acode_seq ?_
        refine acode_seq ?_
        refine acode_region ?_
        refine acode_seq ?_
        refine acode_region ?_
        refine And.intro (fun h => trivial) ?_
        refine And.intro (fun h => ⟨⟨h, trivial⟩, trivial⟩) ?_
        refine And.intro (by exact fun h => h) ?_
        refine acode_cond rfl (fun h20 => ?_) (fun h20 => ?_)
        · try simp only [decide_eq_false_iff_not, Bool.and_eq_true, Bool.not_eq_true'] at h20
          try simp only [Int.toNat_natCast, dflt_sl, dflt_st, dflt_str, dflt_int, dflt_bool] at h20
          exact absurd h20.1 (by decide)
        · try simp only [decide_eq_true_eq, Bool.not_eq_false', Bool.and_eq_false_iff] at h20
          try simp only [Int.toNat_natCast, dflt_sl, dflt_st, dflt_str, dflt_int, dflt_bool] at h20
          refine acode_skip ?_
          refine acode_seq ?_
          refine acode_region ?_
          refine acode_seq ?_
          refine acode_seq ?_
          refine acode_region ?_
          refine And.intro (fun h => trivial) ?_
          refine And.intro (fun h => ⟨⟨h, trivial⟩, trivial⟩) ?_
          refine And.intro (by first | (intro h; rw [h]; rfl) | (intro h; cases h)) ?_
          refine And.intro (fun h => trivial) ?_
          refine And.intro (fun h => ⟨⟨h, trivial⟩, trivial⟩) ?_
          refine And.intro (fun h => ⟨⟨h, trivial⟩, trivial⟩) ?_
          refine And.intro (fun h => ⟨⟨h, trivial⟩, trivial⟩) ?_
          refine And.intro (fun h => ⟨⟨h, trivial⟩, trivial⟩) ?_
          refine And.intro (by first | (intro h; rw [h]; rfl) | (intro h; cases h)) ?_
          refine acode_cond rfl (fun h39 => ?_) (fun h39 => ?_)
          · try simp only [Bool.not_eq_true', Bool.or_eq_true] at h39
            try simp only [Int.toNat_natCast, dflt_sl, dflt_st, dflt_str, dflt_int, dflt_bool] at h39
            exact absurd h39 (by decide)
          · try simp only [Bool.not_eq_false', Bool.or_eq_false_iff] at h39
            try simp only [Int.toNat_natCast, dflt_sl, dflt_st, dflt_str, dflt_int, dflt_bool] at h39
            refine acode_skip ?_
            refine acode_region ?_
            refine acode_region ?_
            refine And.intro (by first | omega | assumption | decide | (simp only [Int.toNat_natCast, dflt_sl, dflt_st, dflt_str, dflt_int, dflt_bool]; omega) | (simp <;> omega)) ?_
            exact ⟨true, trivial, by decide, le_of ⟨rfl, rfl⟩ trivial rfl⟩
    · try simp only [decide_eq_false_iff_not, Int.not_lt] at h8
      try simp only [Int.toNat_natCast, dflt_sl, dflt_st, dflt_str, dflt_int, dflt_bool] at h8
      exact absurd h8 (by decide)
  · refine acode_region ?_
    refine acode_seq ?_
    refine acode_cond rfl (fun h8 => ?_) (fun h8 => ?_)
    · try simp only [decide_eq_true_eq] at h8
      try simp only [Int.toNat_natCast, dflt_sl, dflt_st, dflt_str, dflt_int, dflt_bool] at h8
      refine acode_skip ?_
      refine acode_seq ?_
      refine acode_block ?_
      refine acode_seq ?_
      refine acode_seq ?_
      refine acode_region ?_
      refine acode_cond rfl (fun h10 => ?_) (fun h10 => ?_)
      · try simp only [decide_eq_true_eq, decide_eq_false_iff_not, Bool.and_eq_true, Bool.not_eq_true', Bool.not_eq_false', Bool.or_eq_false_iff, Bool.or_eq_true, Bool.and_eq_false_iff, Int.not_lt, Int.not_le] at h10
        try simp only [Int.toNat_natCast, dflt_sl, dflt_st, dflt_str, dflt_int, dflt_bool] at h10
        cases h10
      · skip
        refine acode_skip ?_
        refine acode_seq ?_
        refine acode_seq ?_
        refine acode_region ?_
        refine acode_seq ?_
        refine acode_region ?_
        refine And.intro (fun h => trivial) ?_
        refine And.intro (fun h => ⟨⟨h, trivial⟩, trivial⟩) ?_
        refine And.intro (by exact fun h => h) ?_
        refine acode_cond rfl (fun h20 => ?_) (fun h20 => ?_)
        · try simp only [decide_eq_false_iff_not, Bool.and_eq_true, Bool.not_eq_true'] at h20
          try simp only [Int.toNat_natCast, dflt_sl, dflt_st, dflt_str, dflt_int, dflt_bool] at h20
          refine acode_seq ?_
          refine acode_region ?_
          refine acode_ret ?_
          rfl
        · try simp only [decide_eq_true_eq, Bool.not_eq_false', Bool.and_eq_false_iff] at h20
          try simp only [Int.toNat_natCast, dflt_sl, dflt_st, dflt_str, dflt_int, dflt_bool] at h20
          exact absurd (h20.resolve_left (fun e => by cases e)) hn
    · try simp only [decide_eq_false_iff_not, Int.not_lt] at h8
      try simp only [Int.toNat_natCast, dflt_sl, dflt_st, dflt_str, dflt_int, dflt_bool] at h8
      exact absurd h8 (by decide)
end Q
end Ab
end Go.Proofs.YtdedkoiodehmnaaDoor
namespace Go.Proofs.YtdedkoiodehmnaaDoor
open Go.RowKit
namespace Ab
set_option maxRecDepth 100000
namespace Q
/-- Lines that are not too many, nor too long together. -/
def LinesOk (l : List ByteArray) : Prop := l.length ≤ 1000000 ∧ (l.map (·.size)).sum ≤ 100000000
theorem sum_mem {l : List ByteArray} {s : ByteArray} (h : s ∈ l) : s.size ≤ (l.map (·.size)).sum := by
  induction l with
  | nil => cases h
  | cons a r ih =>
    rw [List.map_cons, List.sum_cons]
    rcases List.mem_cons.1 h with rfl | h
    · omega
    · have := ih h; omega
theorem sum_drop (l : List ByteArray) (n : Nat) : ((l.drop n).map (·.size)).sum ≤ (l.map (·.size)).sum := by
  conv => rhs; rw [← List.take_append_drop n l, List.map_append, List.sum_append]
  omega
def unfA (l : List ByteArray) : A := if (unfoldL (l.map ls)).2 = 0 then .tup [(true, [.lit (.string (bytes (unfoldL (l.map ls)).1.1)), .lit (.string (bytes (unfoldL (l.map ls)).1.2))]), (false, [.lit .nilIface])]
  else .tup [(true, [.lit (.string ⟨#[]⟩), .lit (.string ⟨#[]⟩)]), (false, [errN (unfoldL (l.map ls)).2])]
theorem unfA_bad {l : List ByteArray} {n : Int} (h : (unfoldL (l.map ls)).2 = n) (hn : n ≠ 0) : unfA l = .tup [(true, [.lit (.string ⟨#[]⟩), .lit (.string ⟨#[]⟩)]), (false, [errN n])] := by
  unfold unfA; rw [if_neg (by rw [h]; exact hn), h]
theorem unfA_ok {l : List ByteArray} {k v : List UInt8} (h : unfoldL (l.map ls) = ((k, v), 0)) : unfA l = .tup [(true, [.lit (.string (bytes k)), .lit (.string (bytes v))]), (false, [.lit .nilIface])] := by
  unfold unfA; rw [if_pos (by rw [h]), h]
theorem trimP_len (s p : List UInt8) : (Lib.trimPrefix s p).length ≤ s.length := by
  unfold Lib.trimPrefix; split
  · rw [List.length_drop]; omega
  · exact Nat.le_refl _
theorem joinL_len (c : UInt8) : ∀ l : List (List UInt8), (Lib.join l [c]).length ≤ (l.map (·.length)).sum + l.length
  | [] => by simp [Lib.join]
  | [a] => by rw [Lib.join_one]; simp
  | a :: b :: r => by
    have := joinL_len c (b :: r)
    rw [join_two]
    simp only [List.length_append, List.length_cons, List.length_nil, List.map_cons, List.sum_cons] at this ⊢
    omega
theorem map_sum_le {α : Type} (f g : α → Nat) : ∀ l : List α, (∀ x ∈ l, f x ≤ g x) → (l.map f).sum ≤ (l.map g).sum
  | [], _ => Nat.le_refl _
  | a :: r, h => by
    simp only [List.map_cons, List.sum_cons]
    have := h a (by simp)
    have := map_sum_le f g r fun x hx => h x (by simp [hx])
    omega
/-- What stands on a further line. -/
def moreB (s : ByteArray) : ByteArray := bytes (Lib.trimPrefix (s.data.toList.drop 1) [46])
def firstB (s : ByteArray) : ByteArray := bytes (Lib.trimPrefix (Lib.cut s.data.toList [58]).2.1 [32])
theorem value_join (s : ByteArray) (r : List ByteArray) : Lib.join ((firstB s :: r.map moreB).map (·.data.toList)) [10] = valueL (ls s) (r.map ls) := by
  unfold valueL firstB moreB
  rw [List.map_cons, bytes_list, List.map_map, List.map_map]
  congr 2
theorem value_len (s : ByteArray) (r : List ByteArray) : (valueL (ls s) (r.map ls)).length ≤ s.size + (r.map (·.size)).sum + r.length + 1 := by
  unfold valueL
  refine Nat.le_trans (joinL_len 10 _) ?_
  rw [List.map_cons, List.sum_cons, List.length_cons, List.map_map, List.map_map, List.length_map, List.length_map]
  have h1 := trimP_len (Lib.cut (ls s) [58]).2.1 [32]
  have h2 := (cut_len (ls s) [58]).2
  have h3 : s.size = (ls s).length := size_list s
  have h4 := map_sum_le (((fun l : List UInt8 => l.length) ∘ (fun s : List UInt8 => Lib.trimPrefix (s.drop 1) [46])) ∘ ls) (fun s : ByteArray => s.size) r fun x _ => by
    have h5 := trimP_len ((ls x).drop 1) [46]
    have h6 : x.size = (ls x).length := size_list x
    simp only [Function.comp]
    rw [List.length_drop] at h5
    omega
  omega
theorem cutL_ok {l : List UInt8} (h : (cutL l).2.2 = true) : kindL l = 4 ∧ cutL l = Lib.cut l [58] ∧ keyOk (Lib.cut l [58]).1 = true := by
  unfold cutL at h ⊢
  split
  · rename_i h4
    refine ⟨h4, rfl, ?_⟩
    have := h4
    unfold kindL at this
    split at this
    · cases this
    · split at this
      · cases this
      · split at this
        · cases this
        · split at this
          · cases this
          · split at this
            · rename_i h5; rw [Bool.and_eq_true] at h5; exact h5.2
            · cases this
  · rename_i h4; rw [if_neg h4] at h; cases h
theorem cutL_no {l : List UInt8} (h : (cutL l).2.2 = false) : kindL l ≠ 4 := fun h4 => by
  unfold cutL at h
  rw [if_pos h4] at h
  unfold kindL at h4
  split at h4
  · cases h4
  · split at h4
    · cases h4
    · split at h4
      · cases h4
      · split at h4
        · cases h4
        · split at h4
          · rename_i h5; rw [Bool.and_eq_true] at h5; rw [h] at h5; cases h5.1
          · cases h4
theorem kind3_pos {l : List UInt8} (h : kindL l = 3) : 1 ≤ l.length := by
  cases l with
  | nil => cases h
  | cons a r => simp
theorem unf_form {s : ByteArray} {r : List ByteArray} (h : kindL (ls s) ≠ 4 ∨ ∃ x ∈ r, kindL (ls x) ≠ 3) : (unfoldL ((s :: r).map ls)).2 = 2 := by
  rw [List.map_cons, unfoldL, if_pos]
  rcases h with h | ⟨x, hx, h⟩
  · exact .inl h
  · exact .inr (List.any_eq_true.2 ⟨ls x, List.mem_map.2 ⟨x, hx, rfl⟩, by rw [decide_eq_false h]; rfl⟩)
theorem unf_good {s : ByteArray} {r : List ByteArray} (h : kindL (ls s) = 4) (hr : ∀ x ∈ r, kindL (ls x) = 3) : unfoldL ((s :: r).map ls) = if 1000 < (valueL (ls s) (r.map ls)).length then (([], []), 6) else (((Lib.cut (ls s) [58]).1, valueL (ls s) (r.map ls)), 0) := by
  rw [List.map_cons, unfoldL, if_neg]
  rintro (h1 | h1)
  · exact h1 h
  · obtain ⟨x, hx, h2⟩ := List.any_eq_true.1 h1
    obtain ⟨y, hy, rfl⟩ := List.mem_map.1 hx
    rw [hr y hy] at h2
    exact absurd h2 (by decide)
theorem lcut_v (s : ByteArray) (c : List UInt8 × List UInt8 × Bool) (hc : cutL s.data.toList = c) (hs : s.size ≤ 1000000000) : ACall Tryd.prog 24 [is s] (cutA c) := by
  subst hc; exact lcut_c s hs
theorem drop_size (s : ByteArray) (n : Nat) : (s.extract n s.size).data.toList = s.data.toList.drop n := by
  rw [extract_ls, List.take_of_length_le (by rw [List.length_drop, size_list]; omega)]
theorem more_eq (s : ByteArray) : (⟨(Lib.trimPrefix (s.extract (Int.toNat 1) (s.size : Int).toNat).data.toList ({ data := #[46] } : ByteArray).data.toList).toArray⟩ : ByteArray) = moreB s := by
  rw [Int.toNat_natCast, show Int.toNat 1 = 1 from rfl, drop_size]; rfl
theorem join_v (s : ByteArray) (r : List ByteArray) (h : LinesOk (s :: r)) : ACall Tryd.prog 79 [.one (.sl .str (firstB s :: r.map moreB)), is ⟨#[10]⟩] (is (bytes (valueL (ls s) (r.map ls)))) := by
  have h1 := h.1
  have h2 := h.2
  simp only [List.length_cons, List.map_cons, List.sum_cons] at h1 h2
  have hv := value_len s r
  have := join_c (firstB s :: r.map moreB) ⟨#[10]⟩ (by simp only [List.length_cons, List.length_map]; omega) (by rw [show (⟨#[10]⟩ : ByteArray).data.toList = [10] from rfl, value_join]; omega)
  rw [show (⟨#[10]⟩ : ByteArray).data.toList = [10] from rfl, value_join] at this
  exact this
theorem check_kv (k v : List UInt8) (hk : keyOk k = true) : checkF (bytes k, bytes v) = if 1000 < v.length then 6 else 0 := by
  unfold checkF
  rw [if_pos (by rw [bytes_list]; exact hk), bytes_size]
theorem unfold_c (s0 : ByteArray) (r : List ByteArray) (hl : LinesOk (s0 :: r)) : ACall Tryd.prog 28 [.one (.sl .str (s0 :: r))] (unfA (s0 :: r)) := by
  obtain ⟨l, hl0⟩ : ∃ l, s0 :: r = l := ⟨_, rfl⟩
  rw [hl0] at hl ⊢
  have hsz : ∀ x ∈ l, x.size ≤ 100000000 := fun x hx => Nat.le_trans (sum_mem hx) hl.2
  have hll := hl.1
  have hd : l.drop 1 = r := by rw [← hl0]; rfl
  have h0 : l.getD 0 ByteArray.empty = s0 := by rw [← hl0]; rfl
  have hs0 : s0.size ≤ 100000000 := hsz _ (by rw [← hl0]; simp)
  obtain ⟨c, hc⟩ : ∃ c, cutL s0.data.toList = c := ⟨_, rfl⟩
  have hlen : l.length = r.length + 1 := by rw [← hl0]; rfl
  have hdl : (l.drop 1).length = l.length - 1 := List.length_drop
  refine acall_ofc (rs := [.cell 2 32, .tmp 3]) Tryd.func28 rfl rfl rfl teOk rfl ?_
  refine acode_seq ?_
  refine acode_region ?_
  refine acode_seq ?_
  refine acode_seq ?_
  refine acode_region ?_
  intro l1_1
  try simp only [Int.toNat_natCast, dflt_sl, dflt_st, dflt_str, dflt_int, dflt_bool] at l1_1
  refine acode_cond rfl (fun h14 => ?_) (fun h14 => ?_)
  · try simp only [decide_eq_true_eq] at h14
    try simp only [Int.toNat_natCast, dflt_sl, dflt_st, dflt_str, dflt_int, dflt_bool] at h14
    exfalso; omega
  · try simp only [decide_eq_false_iff_not] at h14
    try simp only [Int.toNat_natCast, dflt_sl, dflt_st, dflt_str, dflt_int, dflt_bool] at h14
    refine acode_skip ?_
    refine acode_seq ?_
    refine acode_region ?_
    refine And.intro (by first | omega | assumption | decide | (simp only [Int.toNat_natCast, dflt_sl, dflt_st, dflt_str, dflt_int, dflt_bool]; omega) | (simp <;> omega)) ?_
    refine Or.inl ?_
    refine And.intro (rfl) ?_
    refine Exists.intro _ (And.intro ((lcut_v (l.getD 0 ByteArray.empty) c (by rw [h0]; exact hc) (by rw [h0]; omega))) ?_)
    refine acode_seq ?_
    refine acode_seq ?_
    refine acode_region ?_
    refine acode_cond rfl (fun h26 => ?_) (fun h26 => ?_)
    · try simp only [Bool.not_eq_true'] at h26
      try simp only [Int.toNat_natCast, dflt_sl, dflt_st, dflt_str, dflt_int, dflt_bool] at h26
      refine acode_seq ?_
      refine acode_region ?_
      refine acode_ret ?_
      rw [unfA_bad (n := 2) (by rw [← hl0]; exact unf_form (.inl (cutL_no (by rw [show ls s0 = s0.data.toList from rfl, hc]; exact h26)))) (by decide)]
      rfl
    · try simp only [Bool.not_eq_false'] at h26
      try simp only [Int.toNat_natCast, dflt_sl, dflt_st, dflt_str, dflt_int, dflt_bool] at h26
      have hco : (cutL s0.data.toList).2.2 = true := by rw [hc]; exact h26
      obtain ⟨hk4, hcc, hko⟩ := cutL_ok hco
      have hcl : c = Lib.cut s0.data.toList [58] := by rw [← hc, hcc]
      refine acode_skip ?_
      refine acode_seq ?_
      refine acode_region ?_
      refine Or.inl ?_
      refine And.intro (rfl) ?_
      refine Exists.intro _ (And.intro (trimPrefix_c _ _) ?_)
      refine acode_seq ?_
      refine acode_seq ?_
      refine acode_region ?_
      refine And.intro (by first | omega | assumption | decide | (simp only [Int.toNat_natCast, dflt_sl, dflt_st, dflt_str, dflt_int, dflt_bool]; omega) | (simp <;> omega)) ?_
      intro l7_2
      try simp only [Int.toNat_natCast, dflt_sl, dflt_st, dflt_str, dflt_int, dflt_bool] at l7_2
      refine acode_block ?_
      refine acode_loopP (fun (i : Nat) => i ≤ (l.drop 1).length ∧ ∀ x ∈ (l.drop 1).take i, kindL (ls x) = 3) (fun (i : Nat) => [(2, .one (.own 0 0)), (4, is (bytes c.1)), (7, .one (.vec 1)), (33, .one (.sl .str (l.drop 1))), (34, ii .i64 (l.drop 1).length), (35, ii .i64 i)]) (fun (i : Nat) => [(0, .box 32 [.lit (.string ⟨#[]⟩), .lit (.string ⟨#[]⟩)]), (1, .vec 9 .str (firstB s0 :: ((l.drop 1).take i).map moreB))]) 2 (fun (i : Nat) => (l.drop 1).length - i) 0 (⟨Nat.zero_le _, by simp⟩) (le_of ⟨rfl, rfl, rfl, rfl, rfl, rfl⟩ ⟨rfl, (vec_eq (by rw [List.take_zero, List.map_nil, bytes_list, hcl]; rfl))⟩ rfl) ?_
      intro i hI0
      obtain ⟨hi, hall⟩ := hI0
      refine acode_seq ?_
      refine acode_region ?_
      refine acode_seq ?_
      refine acode_cond rfl (fun h36 => ?_) (fun h36 => ?_)
      · try simp only [decide_eq_true_eq] at h36
        try simp only [Int.toNat_natCast, dflt_sl, dflt_st, dflt_str, dflt_int, dflt_bool] at h36
        have hlt : i < (l.drop 1).length := by omega
        have hm := List.mem_of_mem_drop (getD_mem hlt ByteArray.empty)
        have hms := hsz _ hm
        refine acode_skip ?_
        refine acode_seq ?_
        refine acode_block ?_
        refine acode_seq ?_
        refine acode_region ?_
        refine And.intro (by first | omega | assumption | decide | (simp only [Int.toNat_natCast, dflt_sl, dflt_st, dflt_str, dflt_int, dflt_bool]; omega) | (simp <;> omega)) ?_
        refine acode_seq ?_
        refine acode_seq ?_
        refine acode_region ?_
        refine Or.inl ?_
        refine And.intro (rfl) ?_
        refine Exists.intro _ (And.intro (kind_c ((l.drop 1).getD i ByteArray.empty) (by omega)) ?_)
        refine acode_cond rfl (fun h41 => ?_) (fun h41 => ?_)
        · try simp only [decide_eq_false_iff_not, Bool.not_eq_true'] at h41
          try simp only [Int.toNat_natCast, dflt_sl, dflt_st, dflt_str, dflt_int, dflt_bool] at h41
          refine acode_seq ?_
          refine acode_region ?_
          refine acode_ret ?_
          rw [unfA_bad (n := 2) (by rw [← hl0]; exact unf_form (.inr ⟨_, by rw [← hd]; exact getD_mem hlt ByteArray.empty, h41⟩)) (by decide)]
          rfl
        · try simp only [decide_eq_true_eq, Bool.not_eq_false'] at h41
          try simp only [Int.toNat_natCast, dflt_sl, dflt_st, dflt_str, dflt_int, dflt_bool] at h41
          have h1 := kind3_pos h41
          have hz := size_list ((l.drop 1).getD i ByteArray.empty)
          refine acode_skip ?_
          refine acode_region ?_
          refine And.intro (by first | omega | assumption | decide | (simp only [Int.toNat_natCast, dflt_str]; omega) | (simp <;> omega)) ?_
          refine Or.inl ?_
          refine And.intro (rfl) ?_
          refine Exists.intro _ (And.intro (trimPrefix_c _ _) ?_)
          refine And.intro (by first | exact app_le (by first | omega | (simp only [List.length_cons, List.length_nil, List.length_map, List.length_take, List.length_drop]; omega) | (simp; omega)) (by decide) | omega | assumption | decide | (simp only [Int.toNat_natCast, dflt_sl, dflt_st, dflt_str, dflt_int, dflt_bool]; omega) | (simp <;> omega)) ?_
          refine acode_region ?_
          refine And.intro (by first | omega | assumption | decide | (simp only [Int.toNat_natCast, dflt_sl, dflt_st, dflt_str, dflt_int, dflt_bool]; omega) | (simp <;> omega)) ?_
          exact ⟨i + 1, ⟨by omega, by rw [← take_snoc ByteArray.empty hlt]; intro f hf; rcases List.mem_append.1 hf with h|h; exact hall f h; rw [List.mem_singleton.1 h]; exact h41⟩, by first | omega | (simp <;> omega), le_of ⟨rfl, rfl, rfl, rfl, rfl, (ii_eq (by omega))⟩ ⟨rfl, (vec_eq (map_next moreB ByteArray.empty hlt _ (more_eq _) [_]))⟩ rfl⟩
      · try simp only [decide_eq_false_iff_not, Int.not_lt] at h36
        try simp only [Int.toNat_natCast, dflt_sl, dflt_st, dflt_str, dflt_int, dflt_bool] at h36
        rw [List.take_of_length_le (by omega)] at hall ⊢
        rw [hd] at hall ⊢
        refine acode_exit ?_
        refine acode_seq ?_
        refine acode_region ?_
        refine Or.inl ?_
        refine And.intro (rfl) ?_
        refine Exists.intro _ (And.intro (join_v s0 r (by rw [hl0]; exact hl)) ?_)
        refine acode_seq ?_
        refine acode_seq ?_
        by_cases hv : 1000 < (valueL (ls s0) (r.map ls)).length
        · refine acode_region ?_
          refine Or.inl ?_
          refine And.intro (rfl) ?_
          refine Exists.intro _ (And.intro ((check_v (bytes c.1, bytes (valueL (ls s0) (r.map ls))) 6 (by rw [bytes_size]; have := (cut_len s0.data.toList [58]).1; rw [hcl]; rw [size_list] at hs0; omega) (by rw [check_kv _ _ (by rw [hcl]; exact hko), if_pos hv]) : ACall _ _ _ (.one (errN 6)))) ?_)
          refine acode_seq ?_
          refine acode_region ?_
          refine acode_cond rfl (fun h58 => ?_) (fun h58 => ?_)
          · skip
            refine acode_seq ?_
            refine acode_region ?_
            refine acode_ret ?_
            rw [unfA_bad (n := 6) (by rw [← hl0, unf_good hk4 hall, if_pos hv]) (by decide)]
            rfl
          · try simp only [decide_eq_true_eq, decide_eq_false_iff_not, Bool.and_eq_true, Bool.not_eq_true', Bool.not_eq_false', Bool.or_eq_false_iff, Bool.or_eq_true, Bool.and_eq_false_iff, Int.not_lt, Int.not_le] at h58
            try simp only [Int.toNat_natCast, dflt_sl, dflt_st, dflt_str, dflt_int, dflt_bool] at h58
            cases h58
        · refine acode_region ?_
          refine Or.inl ?_
          refine And.intro (rfl) ?_
          refine Exists.intro _ (And.intro ((check_v (bytes c.1, bytes (valueL (ls s0) (r.map ls))) 0 (by rw [bytes_size]; have := (cut_len s0.data.toList [58]).1; rw [hcl]; rw [size_list] at hs0; omega) (by rw [check_kv _ _ (by rw [hcl]; exact hko), if_neg hv]) : ACall _ _ _ (.one (.lit .nilIface)))) ?_)
          refine acode_seq ?_
          refine acode_region ?_
          refine acode_cond rfl (fun h58 => ?_) (fun h58 => ?_)
          · try simp only [Bool.not_eq_true'] at h58
            try simp only [Int.toNat_natCast, dflt_sl, dflt_st, dflt_str, dflt_int, dflt_bool] at h58
            cases h58
          · try simp only [Bool.not_eq_false'] at h58
            try simp only [Int.toNat_natCast, dflt_sl, dflt_st, dflt_str, dflt_int, dflt_bool] at h58
            refine acode_skip ?_
            refine acode_seq ?_
            refine acode_region ?_
            refine acode_ret ?_
            rw [unfA_ok (k := c.1) (v := valueL (ls s0) (r.map ls)) (by rw [← hl0, unf_good hk4 hall, if_neg hv, hcl])]
            rfl
end Q
end Ab
end Go.Proofs.YtdedkoiodehmnaaDoor
namespace Go.Proofs.YtdedkoiodehmnaaDoor
open Go.RowKit
namespace Ab
set_option maxRecDepth 100000
namespace Q
theorem unfold_e : ACall Tryd.prog 28 [.one (.sl .str [])] (unfA []) := by
  refine acall_ofc (rs := [.cell 2 32, .tmp 3]) Tryd.func28 rfl rfl rfl teOk rfl ?_
  refine acode_seq ?_
  refine acode_region ?_
  refine acode_seq ?_
  refine acode_seq ?_
  refine acode_region ?_
  intro l1_1
  try simp only [Int.toNat_natCast, dflt_sl, dflt_st, dflt_str, dflt_int, dflt_bool] at l1_1
  refine acode_cond rfl (fun h14 => ?_) (fun h14 => ?_)
  · try simp only [decide_eq_true_eq] at h14
    try simp only [Int.toNat_natCast, dflt_sl, dflt_st, dflt_str, dflt_int, dflt_bool] at h14
    refine acode_seq ?_
    refine acode_region ?_
    refine acode_ret ?_
    rfl
  · try simp only [decide_eq_false_iff_not] at h14
    try simp only [Int.toNat_natCast, dflt_sl, dflt_st, dflt_str, dflt_int, dflt_bool] at h14
    exact absurd rfl h14
theorem unfold_a (l : List ByteArray) (hl : LinesOk l) : ACall Tryd.prog 28 [.one (.sl .str l)] (unfA l) := by
  cases l with
  | nil => exact unfold_e
  | cons s r => exact unfold_c s r hl
theorem kind4_key {l : List UInt8} (h4 : kindL l = 4) : 10 ∉ l ∧ ((Lib.cut l [58]).2.2 && keyOk (Lib.cut l [58]).1) = true := by
  unfold kindL at h4
  split at h4
  · cases h4
  · rename_i h10
    refine ⟨h10, ?_⟩
    split at h4
    · cases h4
    · split at h4
      · cases h4
      · split at h4
        · cases h4
        · split at h4
          · rename_i h5; exact h5
          · cases h4
theorem unf_cases (L : List (List UInt8)) : (∃ n, (n = 2 ∨ n = 6) ∧ unfoldL L = (([], []), n)) ∨ ∃ k v, unfoldL L = ((k, v), 0) ∧ keyOk k = true ∧ v.length ≤ 1000 := by
  cases L with
  | nil => exact .inl ⟨2, .inl rfl, rfl⟩
  | cons a r =>
    rw [unfoldL]
    split
    · exact .inl ⟨2, .inl rfl, rfl⟩
    · rename_i h1
      split
      · exact .inl ⟨6, .inr rfl, rfl⟩
      · rename_i h2
        have h4 : kindL a = 4 := Classical.not_not.1 fun h => h1 (.inl h)
        have := (kind4_key h4).2
        rw [Bool.and_eq_true] at this
        exact .inr ⟨_, _, rfl, this.2, by omega⟩
theorem unfold_bad (l : List ByteArray) (hl : LinesOk l) {n : Int} (h : unfoldL (l.map ls) = (([], []), n)) (hn : n = 2 ∨ n = 6) : ACall Tryd.prog 28 [.one (.sl .str l)] (.tup [(true, [.lit (.string ⟨#[]⟩), .lit (.string ⟨#[]⟩)]), (false, [errN n])]) := by
  have := unfold_a l hl
  rw [unfA_bad (n := n) (by rw [h]) (by rcases hn with rfl | rfl <;> decide)] at this
  exact this
theorem unfold_ok (l : List ByteArray) (hl : LinesOk l) {k v : List UInt8} (h : unfoldL (l.map ls) = ((k, v), 0)) : ACall Tryd.prog 28 [.one (.sl .str l)] (.tup [(true, [.lit (.string (bytes k)), .lit (.string (bytes v))]), (false, [.lit .nilIface])]) := by
  have := unfold_a l hl
  rw [unfA_ok h] at this
  exact this
theorem equalS_c (a b : List ByteArray) : ACall Tryd.prog 82 [.one (.sl .str a), .one (.sl .str b)] (ib (decide (a = b))) := by
  refine acall_of (rs := [4]) Tryd.func82 rfl rfl rfl teOk rfl ?_
  refine acode_seq ?_
  refine acode_region ?_
  refine acode_seq ?_
  refine acode_seq ?_
  refine acode_region ?_
  intro l1_1
  try simp only [Int.toNat_natCast, dflt_sl, dflt_st, dflt_str, dflt_int, dflt_bool] at l1_1
  intro l1_3
  try simp only [Int.toNat_natCast, dflt_sl, dflt_st, dflt_str, dflt_int, dflt_bool] at l1_3
  refine acode_cond rfl (fun h10 => ?_) (fun h10 => ?_)
  · try simp only [decide_eq_false_iff_not, Bool.not_eq_true'] at h10
    try simp only [Int.toNat_natCast, dflt_sl, dflt_st, dflt_str, dflt_int, dflt_bool] at h10
    refine acode_seq ?_
    refine acode_region ?_
    refine acode_ret ?_
    exact ib_eq (decide_eq_false (fun e => by rw [e] at h10; omega)).symm
  · try simp only [decide_eq_true_eq, Bool.not_eq_false'] at h10
    try simp only [Int.toNat_natCast, dflt_sl, dflt_st, dflt_str, dflt_int, dflt_bool] at h10
    refine acode_skip ?_
    refine acode_seq ?_
    refine acode_seq ?_
    refine acode_region ?_
    intro l3_1
    try simp only [Int.toNat_natCast, dflt_sl, dflt_st, dflt_str, dflt_int, dflt_bool] at l3_1
    refine acode_block ?_
    refine acode_loopP (fun (i : Nat) => i ≤ a.length ∧ a.take i = b.take i) (fun (i : Nat) => [(0, .one (.sl .str a)), (1, .one (.sl .str b)), (12, ii .i64 a.length), (13, ii .i64 i)]) (fun (i : Nat) => []) 0 (fun (i : Nat) => a.length - i) 0 (⟨Nat.zero_le _, by simp⟩) (le_of ⟨rfl, rfl, rfl, rfl⟩ trivial rfl) ?_
    intro i hI0
    obtain ⟨hi, ht⟩ := hI0
    refine acode_seq ?_
    refine acode_region ?_
    refine acode_seq ?_
    refine acode_cond rfl (fun h14 => ?_) (fun h14 => ?_)
    · try simp only [decide_eq_true_eq] at h14
      try simp only [Int.toNat_natCast, dflt_sl, dflt_st, dflt_str, dflt_int, dflt_bool] at h14
      have hla : i < a.length := by omega
      have hlb : i < b.length := by omega
      refine acode_skip ?_
      refine acode_seq ?_
      refine acode_block ?_
      refine acode_seq ?_
      refine acode_region ?_
      refine acode_seq ?_
      refine acode_draw rfl (by kernel_rfl) ?_
      refine And.intro (by first | omega | assumption | decide | (simp only [Int.toNat_natCast, dflt_sl, dflt_st, dflt_str, dflt_int, dflt_bool]; omega) | (simp <;> omega)) ?_
      refine And.intro (by first | omega | assumption | decide | (simp only [Int.toNat_natCast, dflt_sl, dflt_st, dflt_str, dflt_int, dflt_bool]; omega) | (simp <;> omega)) ?_
      refine acode_cond rfl (fun h24 => ?_) (fun h24 => ?_)
      · try simp only [decide_eq_false_iff_not, Bool.not_eq_true'] at h24
        try simp only [Int.toNat_natCast, dflt_str] at h24
        refine acode_seq ?_
        refine acode_region ?_
        refine acode_ret ?_
        exact ib_eq (decide_eq_false (ne_at (i := i) ByteArray.empty h24)).symm
      · try simp only [decide_eq_true_eq, Bool.not_eq_false'] at h24
        try simp only [Int.toNat_natCast, dflt_str] at h24
        refine acode_skip ?_
        refine acode_region ?_
        refine And.intro (by first | omega | assumption | decide | (simp only [Int.toNat_natCast, dflt_sl, dflt_st, dflt_str, dflt_int, dflt_bool]; omega) | (simp <;> omega)) ?_
        exact ⟨i + 1, ⟨by omega, list_ext_take ByteArray.empty hla hlb ht h24⟩, by first | omega | (simp <;> omega), le_of ⟨rfl, rfl, rfl, (ii_eq (by omega))⟩ trivial rfl⟩
    · try simp only [decide_eq_false_iff_not, Int.not_lt] at h14
      try simp only [Int.toNat_natCast, dflt_sl, dflt_st, dflt_str, dflt_int, dflt_bool] at h14
      refine acode_exit ?_
      refine acode_seq ?_
      refine acode_region ?_
      refine acode_ret ?_
      exact ib_eq (decide_eq_true (by rw [List.take_of_length_le (by omega), List.take_of_length_le (by omega)] at ht; exact ht)).symm
theorem texts_c (a b : List ByteArray) : ACall Tryd.prog 29 [.one (.sl .str a), .one (.sl .str b)] (ib (decide (a = b))) := by
  refine acall_of (rs := [4]) Tryd.func29 rfl rfl rfl teOk rfl ?_
  refine acode_seq ?_
  refine acode_region ?_
  refine acode_seq ?_
  refine acode_seq ?_
  refine acode_region ?_
  intro l1_1
  try simp only [Int.toNat_natCast, dflt_sl, dflt_st, dflt_str, dflt_int, dflt_bool] at l1_1
  intro l1_3
  try simp only [Int.toNat_natCast, dflt_sl, dflt_st, dflt_str, dflt_int, dflt_bool] at l1_3
  refine acode_cond rfl (fun h10 => ?_) (fun h10 => ?_)
  · try simp only [decide_eq_false_iff_not, Bool.not_eq_true'] at h10
    try simp only [Int.toNat_natCast, dflt_sl, dflt_st, dflt_str, dflt_int, dflt_bool] at h10
    refine acode_seq ?_
    refine acode_region ?_
    refine acode_ret ?_
    exact ib_eq (decide_eq_false (fun e => by rw [e] at h10; omega)).symm
  · try simp only [decide_eq_true_eq, Bool.not_eq_false'] at h10
    try simp only [Int.toNat_natCast, dflt_sl, dflt_st, dflt_str, dflt_int, dflt_bool] at h10
    refine acode_skip ?_
    refine acode_seq ?_
    refine acode_seq ?_
    refine acode_region ?_
    intro l3_1
    try simp only [Int.toNat_natCast, dflt_sl, dflt_st, dflt_str, dflt_int, dflt_bool] at l3_1
    refine acode_block ?_
    refine acode_loopP (fun (i : Nat) => i ≤ a.length ∧ a.take i = b.take i) (fun (i : Nat) => [(0, .one (.sl .str a)), (1, .one (.sl .str b)), (12, ii .i64 a.length), (13, ii .i64 i)]) (fun (i : Nat) => []) 0 (fun (i : Nat) => a.length - i) 0 (⟨Nat.zero_le _, by simp⟩) (le_of ⟨rfl, rfl, rfl, rfl⟩ trivial rfl) ?_
    intro i hI0
    obtain ⟨hi, ht⟩ := hI0
    refine acode_seq ?_
    refine acode_region ?_
    refine acode_seq ?_
    refine acode_cond rfl (fun h14 => ?_) (fun h14 => ?_)
    · try simp only [decide_eq_true_eq] at h14
      try simp only [Int.toNat_natCast, dflt_sl, dflt_st, dflt_str, dflt_int, dflt_bool] at h14
      have hla : i < a.length := by omega
      have hlb : i < b.length := by omega
      refine acode_skip ?_
      refine acode_seq ?_
      refine acode_block ?_
      refine acode_seq ?_
      refine acode_region ?_
      refine acode_seq ?_
      refine acode_draw rfl (by kernel_rfl) ?_
      refine And.intro (by first | omega | assumption | decide | (simp only [Int.toNat_natCast, dflt_sl, dflt_st, dflt_str, dflt_int, dflt_bool]; omega) | (simp <;> omega)) ?_
      refine And.intro (by first | omega | assumption | decide | (simp only [Int.toNat_natCast, dflt_sl, dflt_st, dflt_str, dflt_int, dflt_bool]; omega) | (simp <;> omega)) ?_
      refine acode_cond rfl (fun h24 => ?_) (fun h24 => ?_)
      · try simp only [decide_eq_false_iff_not, Bool.not_eq_true'] at h24
        try simp only [Int.toNat_natCast, dflt_str] at h24
        refine acode_seq ?_
        refine acode_region ?_
        refine acode_ret ?_
        exact ib_eq (decide_eq_false (ne_at (i := i) ByteArray.empty h24)).symm
      · try simp only [decide_eq_true_eq, Bool.not_eq_false'] at h24
        try simp only [Int.toNat_natCast, dflt_str] at h24
        refine acode_skip ?_
        refine acode_region ?_
        refine And.intro (by first | omega | assumption | decide | (simp only [Int.toNat_natCast, dflt_sl, dflt_st, dflt_str, dflt_int, dflt_bool]; omega) | (simp <;> omega)) ?_
        exact ⟨i + 1, ⟨by omega, list_ext_take ByteArray.empty hla hlb ht h24⟩, by first | omega | (simp <;> omega), le_of ⟨rfl, rfl, rfl, (ii_eq (by omega))⟩ trivial rfl⟩
    · try simp only [decide_eq_false_iff_not, Int.not_lt] at h14
      try simp only [Int.toNat_natCast, dflt_sl, dflt_st, dflt_str, dflt_int, dflt_bool] at h14
      refine acode_exit ?_
      refine acode_seq ?_
      refine acode_region ?_
      refine acode_ret ?_
      exact ib_eq (decide_eq_true (by rw [List.take_of_length_le (by omega), List.take_of_length_le (by omega)] at ht; exact ht)).symm
/-- Are lines those of the field that they say? -/
def plainL (l : List ByteArray) : Bool := decide ((unfoldL (l.map ls)).2 = 0) && decide (lineB (bytes (unfoldL (l.map ls)).1.1) (bytes (unfoldL (l.map ls)).1.2) = l)
theorem plain_bad {l : List ByteArray} {n : Int} (h : unfoldL (l.map ls) = (([], []), n)) (hn : n = 2 ∨ n = 6) : plainL l = false := by
  unfold plainL
  rw [h, decide_eq_false (by rcases hn with rfl | rfl <;> decide)]; rfl
theorem plain_ok {l : List ByteArray} {k v : List UInt8} (h : unfoldL (l.map ls) = ((k, v), 0)) : plainL l = decide (lineB (bytes k) (bytes v) = l) := by
  unfold plainL
  rw [h, decide_eq_true rfl]; rfl
theorem keyOk_len {k : List UInt8} (h : keyOk k = true) : k.length ≤ 32 := by
  obtain ⟨_, _, _, _, _, _, _, h1⟩ := keyOk_spec h
  exact h1
theorem lines_ok (k v : List UInt8) (hk : keyOk k = true) (hv : v.length ≤ 1000) : ACall Tryd.prog 23 [.agg (toL rFld (bytes k, bytes v))] (.tup [(false, [.sl .str (lineB (bytes k) (bytes v))]), (false, [.lit .nilIface])]) := by
  have h1 := keyOk_len hk
  have := lines_c (bytes k, bytes v) (by rw [bytes_size]; omega) (by rw [bytes_size]; omega)
  rw [linesA_ok (by rw [check_kv _ _ hk, if_neg (by omega)])] at this
  exact this
theorem plain_c (l : List ByteArray) (hl : LinesOk l) : ACall Tryd.prog 31 [.one (.sl .str l)] (ib (plainL l)) := by
  refine acall_of (rs := [2]) Tryd.func31 rfl rfl rfl teOk rfl ?_
  refine acode_seq ?_
  refine acode_region ?_
  refine acode_seq ?_
  rcases unf_cases (l.map ls) with ⟨n, hn, hu⟩ | ⟨k, v, hu, hk, hv⟩
  · refine acode_region ?_
    refine Or.inl ?_
    refine And.intro (rfl) ?_
    refine Exists.intro _ (And.intro (unfold_bad l hl hu hn) ?_)
    refine acode_seq ?_
    refine acode_seq ?_
    refine acode_region ?_
    refine acode_cond rfl (fun h12 => ?_) (fun h12 => ?_)
    · skip
      refine acode_seq ?_
      refine acode_region ?_
      refine acode_ret ?_
      exact ib_eq (plain_bad hu hn).symm
    · try simp only [decide_eq_true_eq, decide_eq_false_iff_not, Bool.and_eq_true, Bool.not_eq_true', Bool.not_eq_false', Bool.or_eq_false_iff, Bool.or_eq_true, Bool.and_eq_false_iff, Int.not_lt, Int.not_le] at h12
      try simp only [Int.toNat_natCast, dflt_sl, dflt_st, dflt_str, dflt_int, dflt_bool] at h12
      cases h12
  · refine acode_region ?_
    refine Or.inl ?_
    refine And.intro (rfl) ?_
    refine Exists.intro _ (And.intro (unfold_ok l hl hu) ?_)
    refine acode_seq ?_
    refine acode_seq ?_
    refine acode_region ?_
    refine acode_cond rfl (fun h12 => ?_) (fun h12 => ?_)
    · try simp only [Bool.not_eq_true'] at h12
      try simp only [Int.toNat_natCast, dflt_sl, dflt_st, dflt_str, dflt_int, dflt_bool] at h12
      cases h12
    · try simp only [Bool.not_eq_false'] at h12
      try simp only [Int.toNat_natCast, dflt_sl, dflt_st, dflt_str, dflt_int, dflt_bool] at h12
      refine acode_skip ?_
      refine acode_seq ?_
      refine acode_region ?_
      refine Or.inl ?_
      refine And.intro (rfl) ?_
      refine Exists.intro _ (And.intro (lines_ok k v hk hv) ?_)
      refine acode_seq ?_
      refine acode_region ?_
      refine And.intro (fun h => trivial) ?_
      refine And.intro (fun h => trivial) ?_
      refine And.intro (rfl) ?_
      refine Exists.intro _ (And.intro (fun h => ⟨⟨⟨h, trivial⟩, ⟨h, trivial⟩, trivial⟩, equalS_c (lineB (bytes k) (bytes v)) l⟩) ?_)
      refine And.intro (by exact fun h => h) ?_
      refine acode_ret ?_
      exact ib_eq (by rw [plain_ok hu]; rfl)
theorem kind3_two {l : List UInt8} (h : kindL l = 3) : 2 ≤ l.length := by
  match l with
  | [] => cases h
  | [a] =>
    exfalso
    unfold kindL at h
    split at h
    · cases h
    · split at h
      · cases h
      · rename_i h2
        split at h
        · cases h
        · split at h
          · rename_i h4
            unfold blankL at h4
            simp at h2 h4
            rw [h4] at h2
            cases h2
          · split at h <;> cases h
  | a :: b :: r => simp
theorem valueL_snoc (s : List UInt8) (r : List (List UInt8)) (x : List UInt8) : valueL s (r ++ [x]) = valueL s r ++ ([10] ++ Lib.trimPrefix (x.drop 1) [46]) := by
  unfold valueL
  rw [List.map_append, List.map_cons, List.map_nil, ← List.cons_append, join_snoc _ _ (by simp)]
theorem trimP_yes {c : UInt8} {l : List UInt8} (h : 0 < l.length) (hc : l.getD 0 0 = c) : Lib.trimPrefix l [c] = l.drop 1 := by
  unfold Lib.trimPrefix
  rw [if_pos]
  · rfl
  · rw [hasPrefix_one]
    cases l with
    | nil => cases h
    | cons a b => simp only [List.getD_cons_zero] at hc; rw [hc]; simp
theorem trimP_no {c : UInt8} {l : List UInt8} (hc : l.getD 0 0 ≠ c ∨ l = []) : Lib.trimPrefix l [c] = l := by
  unfold Lib.trimPrefix
  rw [if_neg]
  rw [hasPrefix_one]
  cases l with
  | nil => simp
  | cons a b =>
    rcases hc with hc | hc
    · simp only [List.getD_cons_zero] at hc; simp [hc]
    · cases hc
def refUnfA (l : List ByteArray) : A := .tup [(true, [.lit (.string (bytes (unfoldL (l.map ls)).1.1)), .lit (.string (bytes (unfoldL (l.map ls)).1.2))]), (false, [.lit (.int .i64 (unfoldL (l.map ls)).2)])]
theorem refUnfA_eq {l : List ByteArray} {k v : List UInt8} {n : Int} (h : unfoldL (l.map ls) = ((k, v), n)) : refUnfA l = .tup [(true, [.lit (.string (bytes k)), .lit (.string (bytes v))]), (false, [.lit (.int .i64 n)])] := by
  unfold refUnfA; rw [h]
theorem unf_form2 {s : ByteArray} {r : List ByteArray} (h : kindL (ls s) ≠ 4 ∨ ∃ x ∈ r, kindL (ls x) ≠ 3) : unfoldL ((s :: r).map ls) = (([], []), 2) := by
  rw [List.map_cons, unfoldL, if_pos]
  rcases h with h | ⟨x, hx, h⟩
  · exact .inl h
  · exact .inr (List.any_eq_true.2 ⟨ls x, List.mem_map.2 ⟨x, hx, rfl⟩, by rw [decide_eq_false h]; rfl⟩)
theorem take_map_ls (r : List ByteArray) (i : Nat) (h : i < r.length) : (r.take (i + 1)).map ls = (r.take i).map ls ++ [ls (r.getD i ByteArray.empty)] := by
  rw [← take_snoc ByteArray.empty h, List.map_append]; rfl
theorem ext1 (s : ByteArray) : s.extract (Int.toNat 1) (s.size : Int).toNat = bytes (s.data.toList.drop 1) := by
  rw [Int.toNat_natCast, show Int.toNat 1 = 1 from rfl]
  exact ls_inj (drop_size s 1)
theorem ext1' (s : ByteArray) : s.extract (Int.toNat 1) s.size = bytes (s.data.toList.drop 1) := ext1 s
theorem refUnfold_e : ACall Tryd.prog 32 [.one (.sl .str [])] (refUnfA []) := by
  refine acall_ofc (rs := [.cell 2 32, .tmp 3]) Tryd.func32 rfl rfl rfl teOk rfl ?_
  refine acode_seq ?_
  refine acode_region ?_
  refine acode_seq ?_
  refine acode_seq ?_
  refine acode_region ?_
  intro l1_1
  try simp only [Int.toNat_natCast, dflt_sl, dflt_st, dflt_str, dflt_int, dflt_bool] at l1_1
  refine And.intro (fun h => trivial) ?_
  refine And.intro (fun h => ⟨⟨⟨h, trivial⟩, trivial⟩, by exact absurd h (by decide)⟩) ?_
  refine And.intro (fun h => ⟨⟨h, trivial⟩, trivial⟩) ?_
  refine And.intro (rfl) ?_
  refine Exists.intro _ (And.intro (fun h => ⟨⟨⟨h, trivial⟩, trivial⟩, (absurd h (by decide) : ACall _ _ _ (ii .i64 0))⟩) ?_)
  refine And.intro (fun h => ⟨⟨h, trivial⟩, trivial⟩) ?_
  refine And.intro (by first | (intro h; rw [h]; rfl) | (intro h; cases h)) ?_
  refine acode_cond rfl (fun h18 => ?_) (fun h18 => ?_)
  · try simp only [decide_eq_true_eq, decide_eq_false_iff_not, Bool.not_eq_true', Bool.or_eq_true] at h18
    try simp only [Int.toNat_natCast, dflt_sl, dflt_st, dflt_str, dflt_int, dflt_bool] at h18
    refine acode_seq ?_
    refine acode_region ?_
    refine acode_ret ?_
    rfl
  · try simp only [decide_eq_true_eq, decide_eq_false_iff_not, Bool.not_eq_false', Bool.or_eq_false_iff] at h18
    try simp only [Int.toNat_natCast, dflt_sl, dflt_st, dflt_str, dflt_int, dflt_bool] at h18
    exact absurd h18.1 (by decide)
theorem refUnfold_c (s0 : ByteArray) (r : List ByteArray) (hl : LinesOk (s0 :: r)) : ACall Tryd.prog 32 [.one (.sl .str (s0 :: r))] (refUnfA (s0 :: r)) := by
  obtain ⟨l, hl0⟩ : ∃ l, s0 :: r = l := ⟨_, rfl⟩
  rw [hl0] at hl ⊢
  have hsz : ∀ x ∈ l, x.size ≤ 100000000 := fun x hx => Nat.le_trans (sum_mem hx) hl.2
  have hll := hl.1
  have h0 : l.getD 0 ByteArray.empty = s0 := by rw [← hl0]; rfl
  have hget : ∀ i, l.getD (i + 1) ByteArray.empty = r.getD i ByteArray.empty := fun i => by rw [← hl0]; rfl
  have hs0 : s0.size ≤ 100000000 := hsz _ (by rw [← hl0]; simp)
  have hz0 := size_list s0
  have hlen : l.length = r.length + 1 := by rw [← hl0]; rfl
  obtain ⟨c, hc⟩ : ∃ c, Lib.cut s0.data.toList [58] = c := ⟨_, rfl⟩
  have hcl := (cut_len s0.data.toList [58])
  rw [hc] at hcl
  obtain ⟨v0, hv0⟩ : ∃ v, Lib.trimPrefix c.2.1 [32] = v := ⟨_, rfl⟩
  have hval0 : valueL (ls s0) ((r.take 0).map ls) = v0 := by
    unfold valueL
    rw [← hv0, ← hc]
    simp [Lib.join_one]
  have hvl : ∀ i, i ≤ r.length → (valueL (ls s0) ((r.take i).map ls)).length ≤ 300000000 := fun i hi => by
    have h1 := value_len s0 (r.take i)
    have h2 := hl.2
    rw [← hl0, List.map_cons, List.sum_cons] at h2
    have h3 : ((r.take i).map (·.size)).sum ≤ (r.map (·.size)).sum := by
      conv => rhs; rw [← List.take_append_drop i r, List.map_append, List.sum_append]
      omega
    rw [List.length_take] at h1
    omega
  refine acall_ofc (rs := [.cell 2 32, .tmp 3]) Tryd.func32 rfl rfl rfl teOk rfl ?_
  refine acode_seq ?_
  refine acode_region ?_
  refine acode_seq ?_
  refine acode_seq ?_
  refine acode_region ?_
  intro l1_1
  try simp only [Int.toNat_natCast, dflt_sl, dflt_st, dflt_str, dflt_int, dflt_bool] at l1_1
  refine And.intro (fun h => trivial) ?_
  refine And.intro (fun h => ⟨⟨⟨h, trivial⟩, trivial⟩, by (rw [hlen]; omega)⟩) ?_
  refine And.intro (fun h => ⟨⟨h, trivial⟩, trivial⟩) ?_
  refine And.intro (rfl) ?_
  refine Exists.intro _ (And.intro (fun h => ⟨⟨⟨h, trivial⟩, trivial⟩, refKind_c (l.getD 0 ByteArray.empty) (by rw [h0]; omega)⟩) ?_)
  refine And.intro (fun h => ⟨⟨h, trivial⟩, trivial⟩) ?_
  refine And.intro (by first | (intro h; rw [h]; rfl) | (intro h; cases h)) ?_
  refine acode_cond rfl (fun h18 => ?_) (fun h18 => ?_)
  · try simp only [decide_eq_true_eq, decide_eq_false_iff_not, Bool.not_eq_true', Bool.or_eq_true] at h18
    try simp only [Int.toNat_natCast, dflt_sl, dflt_st, dflt_str, dflt_int, dflt_bool] at h18
    have hk : kindL (ls s0) ≠ 4 := by rcases h18 with h | h; exfalso; omega; rw [h0] at h; exact h
    refine acode_seq ?_
    refine acode_region ?_
    refine acode_ret ?_
    rw [← hl0, refUnfA_eq (unf_form2 (.inl hk))]
    rfl
  · try simp only [decide_eq_true_eq, decide_eq_false_iff_not, Bool.not_eq_false', Bool.or_eq_false_iff] at h18
    try simp only [Int.toNat_natCast, dflt_sl, dflt_st, dflt_str, dflt_int, dflt_bool] at h18
    have hk4 : kindL (ls s0) = 4 := by have := h18.2; rw [h0] at this; exact this
    obtain ⟨h10, hkk⟩ := kind4_key hk4
    refine acode_skip ?_
    refine acode_seq ?_
    refine acode_region ?_
    refine And.intro (by omega) ?_
    refine Or.inl ?_
    refine And.intro (rfl) ?_
    refine Exists.intro _ (And.intro ((refCut_v (l.getD 0 ByteArray.empty) c (by rw [h0]; unfold refCutL; rw [if_neg h10, if_pos (by exact hkk)]; exact hc) (by rw [h0]; omega))) ?_)
    refine acode_cut (fun (u : Unit) => True) (fun (u : Unit) => [(0, .one (.sl .str l)), (2, .one (.own 0 0)), (4, is (bytes c.1)), (5, is (bytes v0))]) (fun (u : Unit) => [(0, .box 32 [.lit (.string ⟨#[]⟩), .lit (.string ⟨#[]⟩)])]) 1 ?_ ?_
    · refine acode_seq ?_
      refine acode_region ?_
      refine And.intro (fun h => trivial) ?_
      refine And.intro (fun h => ⟨⟨⟨h, trivial⟩, trivial⟩, by (have := of_decide_eq_true (by simpa [gq] using h); omega)⟩) ?_
      refine And.intro (fun h => ⟨⟨h, trivial⟩, trivial⟩) ?_
      refine And.intro (by exact fun h => h) ?_
      refine acode_cond rfl (fun h35 => ?_) (fun h35 => ?_)
      · try simp only [decide_eq_true_eq, Bool.and_eq_true] at h35
        try simp only [Int.toNat_natCast, dflt_sl, dflt_st, dflt_str, dflt_int, dflt_bool] at h35
        refine acode_region ?_
        refine And.intro (by first | omega | assumption | decide | (simp only [Int.toNat_natCast, dflt_sl, dflt_st, dflt_str, dflt_int, dflt_bool]; omega) | (simp <;> omega)) ?_
        exact ⟨(), trivial, le_of ⟨rfl, rfl, rfl, (is_eq (by rw [ext1, bytes_list, ← hv0, trimP_yes (by have := h35.1; rw [bytes_size] at this; omega) (u8_eq (b := 32) (by have := h35.2; rw [bytes_list] at this; exact this))]))⟩ rfl rfl⟩
      · try simp only [decide_eq_false_iff_not, Bool.and_eq_false_iff, Int.not_lt] at h35
        try simp only [Int.toNat_natCast, dflt_sl, dflt_st, dflt_str, dflt_int, dflt_bool] at h35
        refine acode_skip ?_
        exact ⟨(), trivial, le_of ⟨rfl, rfl, rfl, (is_eq (by rw [← hv0, trimP_no (h35.elim (fun h => .inr (List.eq_nil_of_length_eq_zero (by rw [bytes_size] at h; omega))) (fun h => .inl (fun e => h (by rw [bytes_list]; rw [show c.2.1.getD (Int.toNat 0) 0 = 32 from e]; rfl))))]))⟩ rfl rfl⟩
    · intro u hcut6
      refine acode_seq ?_
      refine acode_seq ?_
      refine acode_region ?_
      refine acode_block ?_
      refine acode_loopP (fun (i : Nat) => i ≤ r.length ∧ ∀ x ∈ r.take i, kindL (ls x) = 3) (fun (i : Nat) => [(0, .one (.sl .str l)), (2, .one (.own 0 0)), (4, is (bytes c.1)), (5, is (bytes (valueL (ls s0) ((r.take i).map ls)))), (7, ii .i64 ((i : Int) + 1))]) (fun (i : Nat) => [(0, .box 32 [.lit (.string ⟨#[]⟩), .lit (.string ⟨#[]⟩)])]) 1 (fun (i : Nat) => r.length - i) 0 (⟨Nat.zero_le _, by simp⟩) (le_of ⟨rfl, rfl, rfl, (is_eq (by rw [hval0])), rfl⟩ rfl rfl) ?_
      intro i hI0
      obtain ⟨hi, hall⟩ := hI0
      refine acode_seq ?_
      refine acode_seq ?_
      refine acode_region ?_
      intro l7_2
      try simp only [Int.toNat_natCast, dflt_sl, dflt_st, dflt_str, dflt_int, dflt_bool] at l7_2
      refine acode_cond rfl (fun h41 => ?_) (fun h41 => ?_)
      · try simp only [decide_eq_true_eq] at h41
        try simp only [Int.toNat_natCast, dflt_sl, dflt_st, dflt_str, dflt_int, dflt_bool] at h41
        have hlt : i < r.length := by omega
        have hgi : l.getD ((i : Int) + 1).toNat ByteArray.empty = r.getD i ByteArray.empty := by rw [show ((i : Int) + 1).toNat = i + 1 by omega, hget]
        have hm : r.getD i ByteArray.empty ∈ l := by rw [← hl0]; exact List.mem_cons_of_mem _ (getD_mem hlt _)
        have hms := hsz _ hm
        refine acode_skip ?_
        refine acode_seq ?_
        refine acode_block ?_
        refine acode_seq ?_
        refine acode_seq ?_
        refine acode_region ?_
        refine And.intro (by first | omega | assumption | decide | (simp only [Int.toNat_natCast, dflt_sl, dflt_st, dflt_str, dflt_int, dflt_bool]; omega) | (simp <;> omega)) ?_
        refine Or.inl ?_
        refine And.intro (rfl) ?_
        refine Exists.intro _ (And.intro (refKind_c (l.getD ((i : Int) + 1).toNat ByteArray.empty) (by rw [hgi]; omega)) ?_)
        refine acode_cond rfl (fun h49 => ?_) (fun h49 => ?_)
        · try simp only [decide_eq_false_iff_not, Bool.not_eq_true'] at h49
          try simp only [Int.toNat_natCast, dflt_sl, dflt_st, dflt_str, dflt_int, dflt_bool] at h49
          rw [hgi] at h49
          refine acode_seq ?_
          refine acode_region ?_
          refine acode_ret ?_
          rw [← hl0, refUnfA_eq (unf_form2 (.inr ⟨_, getD_mem hlt ByteArray.empty, h49⟩))]
          rfl
        · try simp only [decide_eq_true_eq, Bool.not_eq_false'] at h49
          try simp only [Int.toNat_natCast, dflt_sl, dflt_st, dflt_str, dflt_int, dflt_bool] at h49
          rw [hgi] at h49
          have h2 := kind3_two h49
          have hz := size_list (r.getD i ByteArray.empty)
          have hgs : (l.getD ((i : Int) + 1).toNat Rd.str.dflt).size = (r.getD i ByteArray.empty).size := congrArg ByteArray.size hgi
          refine acode_skip ?_
          refine acode_seq ?_
          refine acode_region ?_
          refine And.intro (by first | omega | assumption | decide | (simp only [Int.toNat_natCast, dflt_sl, dflt_st, dflt_str, dflt_int, dflt_bool]; omega) | (simp <;> omega)) ?_
          refine And.intro (by first | omega | assumption | decide | (simp only [Int.toNat_natCast, dflt_sl, dflt_st, dflt_str, dflt_int, dflt_bool]; omega) | (simp <;> omega)) ?_
          refine acode_cut (fun (u : Unit) => True) (fun (u : Unit) => [(0, .one (.sl .str l)), (2, .one (.own 0 0)), (4, is (bytes c.1)), (5, is (bytes (valueL (ls s0) ((r.take i).map ls)))), (7, ii .i64 ((i : Int) + 1)), (8, is (bytes (Lib.trimPrefix ((ls (r.getD i ByteArray.empty)).drop 1) [46])))]) (fun (u : Unit) => [(0, .box 32 [.lit (.string ⟨#[]⟩), .lit (.string ⟨#[]⟩)])]) 1 ?_ ?_
          · refine acode_seq ?_
            refine acode_region ?_
            refine And.intro (by (rw [show l.getD ((i : Int) + 1).toNat Rd.str.dflt = r.getD i ByteArray.empty from hgi, ext1, bytes_size, List.length_drop]; omega)) ?_
            refine acode_cond rfl (fun h58 => ?_) (fun h58 => ?_)
            · try simp only [decide_eq_true_eq] at h58
              try simp only [Int.toNat_natCast, dflt_str] at h58
              refine acode_region ?_
              refine And.intro (by (rw [show l.getD ((i : Int) + 1).toNat Rd.str.dflt = r.getD i ByteArray.empty from hgi, ext1, bytes_size, List.length_drop]; omega)) ?_
              exact ⟨(), trivial, le_of ⟨rfl, rfl, rfl, rfl, rfl, (is_eq (by rw [show l.getD ((i : Int) + 1).toNat Rd.str.dflt = r.getD i ByteArray.empty from hgi, ext1, ext1, bytes_list, trimP_yes (by rw [List.length_drop]; exact Nat.sub_pos_of_lt h2) (u8_eq (b := 46) (by rw [hgi, ext1', bytes_list] at h58; exact h58))]))⟩ rfl rfl⟩
            · try simp only [decide_eq_false_iff_not] at h58
              try simp only [Int.toNat_natCast, dflt_str] at h58
              refine acode_skip ?_
              exact ⟨(), trivial, le_of ⟨rfl, rfl, rfl, rfl, rfl, (is_eq (by rw [show l.getD ((i : Int) + 1).toNat Rd.str.dflt = r.getD i ByteArray.empty from hgi, ext1, trimP_no (.inl (fun e => h58 (by rw [hgi, ext1', bytes_list, show (List.drop 1 (r.getD i ByteArray.empty).data.toList).getD (Int.toNat 0) 0 = 46 from e]; rfl)))]))⟩ rfl rfl⟩
          · intro u hcut14
            have hvb : (bytes (valueL (ls s0) ((r.take i).map ls))).size ≤ 300000000 := by rw [bytes_size]; exact hvl i hi
            have htb : (bytes (Lib.trimPrefix ((ls (r.getD i ByteArray.empty)).drop 1) [46])).size ≤ 100000000 := by rw [bytes_size]; have h1 := trimP_len ((ls (r.getD i ByteArray.empty)).drop 1) [46]; have h3 : (ls (r.getD i ByteArray.empty)).length = (r.getD i ByteArray.empty).size := (size_list _).symm; rw [List.length_drop] at h1; omega
            have hk10 : ByteArray.size ⟨#[10]⟩ = 1 := rfl
            refine acode_region ?_
            refine And.intro (by (have hk0 : ByteArray.size { data := #[10] } = 1 := rfl; first | (unfold maxLen; omega) | (simp only [ByteArray.size_append]; omega) | (unfold maxLen; (try simp only [ByteArray.size_append]); omega))) ?_
            refine And.intro (by (have hk0 : ByteArray.size { data := #[10] } = 1 := rfl; first | (unfold maxLen; omega) | (simp only [ByteArray.size_append]; omega) | (unfold maxLen; (try simp only [ByteArray.size_append]); omega))) ?_
            refine acode_region ?_
            refine And.intro (by first | omega | assumption | decide | (simp only [Int.toNat_natCast, dflt_sl, dflt_st, dflt_str, dflt_int, dflt_bool]; omega) | (simp <;> omega)) ?_
            exact ⟨i + 1, ⟨by omega, by rw [← take_snoc ByteArray.empty hlt]; intro f hf; rcases List.mem_append.1 hf with h|h; exact hall f h; rw [List.mem_singleton.1 h]; exact h49⟩, by first | omega | (simp <;> omega), le_of ⟨rfl, rfl, rfl, (is_eq (by rw [take_map_ls r i hlt, valueL_snoc, bytes_app, bytes_app, ByteArray.append_assoc]; rfl)), (ii_eq (by omega))⟩ rfl rfl⟩
      · try simp only [decide_eq_false_iff_not, Int.not_lt] at h41
        try simp only [Int.toNat_natCast, dflt_sl, dflt_st, dflt_str, dflt_int, dflt_bool] at h41
        rw [List.take_of_length_le (by omega)] at hall ⊢
        have hvr := hvl r.length (Nat.le_refl _)
        refine acode_exit ?_
        refine acode_seq ?_
        refine acode_seq ?_
        refine acode_region ?_
        refine acode_cond rfl (fun h67 => ?_) (fun h67 => ?_)
        · try simp only [decide_eq_true_eq] at h67
          try simp only [Int.toNat_natCast, dflt_sl, dflt_st, dflt_str, dflt_int, dflt_bool] at h67
          refine acode_seq ?_
          refine acode_region ?_
          refine acode_ret ?_
          rw [← hl0, refUnfA_eq (by rw [unf_good hk4 hall, if_pos (by rw [bytes_size] at h67; omega)])]
          rfl
        · try simp only [decide_eq_false_iff_not, Int.not_lt] at h67
          try simp only [Int.toNat_natCast, dflt_sl, dflt_st, dflt_str, dflt_int, dflt_bool] at h67
          refine acode_skip ?_
          refine acode_seq ?_
          refine acode_region ?_
          refine acode_ret ?_
          rw [← hl0, refUnfA_eq (by rw [unf_good hk4 hall, if_neg (by rw [bytes_size] at h67; omega), show Lib.cut (ls s0) [58] = c from hc])]
          rfl
end Q
end Ab
end Go.Proofs.YtdedkoiodehmnaaDoor
namespace Go.Proofs.YtdedkoiodehmnaaDoor
open Go.RowKit
namespace Ab
set_option maxRecDepth 100000
namespace Q
theorem fields_self (l : List Fld) : ACall Tryd.prog 19 [.one (.sl rFld l), .one (.sl rFld l)] (ib true) := by
  have := fields_c l l
  rw [decide_eq_true rfl] at this
  exact this
theorem refCheck_v (f : Fld) (n : Int) (hk : f.1.size ≤ 1000000000) (h : checkF f = n) : ACall Tryd.prog 20 [.agg (toL rFld f)] (ii .i64 n) := by
  subst h; exact refCheck_c f hk
theorem badF_ne {l : List Fld} (h : ¬ badF l = 0) : badF l = 5 ∨ badF l = 6 := by
  induction l with
  | nil => exact absurd rfl h
  | cons f r ih =>
    unfold badF at h ⊢
    split
    · rename_i h0; rw [if_pos h0] at h; exact ih h
    · rename_i h0; rcases check_cases f with hc | hc | hc
      · exact .inl hc
      · exact .inr hc
      · exact absurd hc h0
theorem FoldTexts_c (l : List Fld) : ACall Tryd.prog 3 [.one (.sl rFld l)] (ib true) := by
  refine acall_of (rs := [2]) Tryd.func3 rfl rfl rfl teOk rfl ?_
  refine acode_seq ?_
  refine acode_region ?_
  refine acode_seq ?_
  refine acode_seq ?_
  refine acode_region ?_
  refine Or.inl ?_
  refine And.intro (rfl) ?_
  refine Exists.intro _ (And.intro (falive_c) ?_)
  refine acode_cond rfl (fun h10 => ?_) (fun h10 => ?_)
  · try simp only [Bool.not_eq_true'] at h10
    try simp only [Int.toNat_natCast, dflt_sl, dflt_st, dflt_str, dflt_int, dflt_bool] at h10
    cases h10
  · try simp only [Bool.not_eq_false'] at h10
    try simp only [Int.toNat_natCast, dflt_sl, dflt_st, dflt_str, dflt_int, dflt_bool] at h10
    refine acode_skip ?_
    refine acode_seq ?_
    refine acode_seq ?_
    refine acode_region ?_
    refine Or.inl ?_
    refine And.intro (rfl) ?_
    refine Exists.intro _ (And.intro (much_c l) ?_)
    refine acode_cond rfl (fun h12 => ?_) (fun h12 => ?_)
    · try simp only [decide_eq_true_eq, decide_eq_false_iff_not, Bool.and_eq_true, Bool.not_eq_true', Bool.not_eq_false', Bool.or_eq_false_iff, Bool.or_eq_true, Bool.and_eq_false_iff, Int.not_lt, Int.not_le] at h12
      try simp only [Int.toNat_natCast, dflt_sl, dflt_st, dflt_str, dflt_int, dflt_bool] at h12
      refine acode_seq ?_
      refine acode_region ?_
      refine acode_ret ?_
      rfl
    · try simp only [decide_eq_true_eq, decide_eq_false_iff_not, Bool.and_eq_true, Bool.not_eq_true', Bool.not_eq_false', Bool.or_eq_false_iff, Bool.or_eq_true, Bool.and_eq_false_iff, Int.not_lt, Int.not_le] at h12
      try simp only [Int.toNat_natCast, dflt_sl, dflt_st, dflt_str, dflt_int, dflt_bool] at h12
      have hl := much_ok h12
      have hln := hl.1
      refine acode_skip ?_
      refine acode_seq ?_
      refine acode_region ?_
      refine Or.inl ?_
      refine And.intro (rfl) ?_
      refine Exists.intro _ (And.intro (copies_c l hln) ?_)
      refine acode_seq ?_
      by_cases hb : badF l = 0
      · refine acode_region ?_
        refine Or.inl ?_
        refine And.intro (rfl) ?_
        refine Exists.intro _ (And.intro (fold_yes hl hb) ?_)
        refine acode_seq ?_
        refine acode_seq ?_
        refine acode_region ?_
        refine Or.inl ?_
        refine And.intro (rfl) ?_
        refine Exists.intro _ (And.intro (fields_self l) ?_)
        refine acode_cond rfl (fun h23 => ?_) (fun h23 => ?_)
        · try simp only [Bool.not_eq_true'] at h23
          try simp only [Int.toNat_natCast, dflt_sl, dflt_st, dflt_str, dflt_int, dflt_bool] at h23
          cases h23
        · try simp only [Bool.not_eq_false'] at h23
          try simp only [Int.toNat_natCast, dflt_sl, dflt_st, dflt_str, dflt_int, dflt_bool] at h23
          refine acode_skip ?_
          refine acode_seq ?_
          refine acode_seq ?_
          refine acode_region ?_
          intro l9_1
          try simp only [Int.toNat_natCast, dflt_sl, dflt_st, dflt_str, dflt_int, dflt_bool] at l9_1
          refine acode_block ?_
          refine acode_loopP (fun (i : Nat) => i ≤ l.length) (fun (i : Nat) => [(0, .one (.sl rFld l)), (4, is (bytes (foldL l))), (5, .one (.lit .nilIface)), (24, .one (.sl rFld l)), (25, ii .i64 l.length), (26, ii .i64 i)]) (fun (i : Nat) => []) 0 (fun (i : Nat) => l.length - i) 0 (Nat.zero_le _) (le_of ⟨rfl, rfl, rfl, rfl, rfl, rfl⟩ trivial rfl) ?_
          intro i hI0
          refine acode_seq ?_
          refine acode_region ?_
          refine acode_seq ?_
          refine acode_cond rfl (fun h27 => ?_) (fun h27 => ?_)
          · try simp only [decide_eq_true_eq] at h27
            try simp only [Int.toNat_natCast, dflt_sl, dflt_st, dflt_str, dflt_int, dflt_bool] at h27
            have hlt : i < l.length := by omega
            have hm := hl.2 _ (getD_mem hlt (ByteArray.empty, ByteArray.empty))
            refine acode_skip ?_
            refine acode_seq ?_
            refine acode_block ?_
            refine acode_seq ?_
            refine acode_region ?_
            refine And.intro (by first | omega | assumption | decide | (simp only [Int.toNat_natCast, dflt_sl, dflt_st, dflt_str, dflt_int, dflt_bool]; omega) | (simp <;> omega)) ?_
            refine acode_seq ?_
            refine acode_region ?_
            refine Or.inl ?_
            refine And.intro (rfl) ?_
            refine Exists.intro _ (And.intro (refCheck_v (l.getD i (ByteArray.empty, ByteArray.empty)) 0 (by omega) (badF_zero hb _ (getD_mem hlt (ByteArray.empty, ByteArray.empty)))) ?_)
            refine acode_seq ?_
            refine acode_region ?_
            refine acode_cond rfl (fun h33 => ?_) (fun h33 => ?_)
            · try simp only [decide_eq_false_iff_not, Bool.not_eq_true'] at h33
              try simp only [Int.toNat_natCast, dflt_sl, dflt_st, dflt_str, dflt_int, dflt_bool] at h33
              exact absurd h33 (by decide)
            · try simp only [decide_eq_true_eq, Bool.not_eq_false'] at h33
              try simp only [Int.toNat_natCast, dflt_sl, dflt_st, dflt_str, dflt_int, dflt_bool] at h33
              refine acode_skip ?_
              refine acode_region ?_
              refine And.intro (by first | omega | assumption | decide | (simp only [Int.toNat_natCast, dflt_sl, dflt_st, dflt_str, dflt_int, dflt_bool]; omega) | (simp <;> omega)) ?_
              exact ⟨i + 1, by omega, by first | omega | (simp <;> omega), le_of ⟨rfl, rfl, rfl, rfl, rfl, (ii_eq (by omega))⟩ trivial rfl⟩
          · try simp only [decide_eq_false_iff_not, Int.not_lt] at h27
            try simp only [Int.toNat_natCast, dflt_sl, dflt_st, dflt_str, dflt_int, dflt_bool] at h27
            refine acode_exit ?_
            refine acode_seq ?_
            refine acode_region ?_
            refine And.intro (fun h => trivial) ?_
            refine And.intro (fun h => trivial) ?_
            refine And.intro (rfl) ?_
            refine Exists.intro _ (And.intro (fun h => ⟨⟨⟨h, trivial⟩, trivial⟩, refFold_c l (badF_zero hb) hln⟩) ?_)
            refine And.intro (fun h => ⟨⟨h, trivial⟩, ⟨h, trivial⟩, trivial⟩) ?_
            refine And.intro (by exact fun h => h) ?_
            refine acode_ret ?_
            exact ib_eq (by simp)
      · refine acode_region ?_
        refine Or.inl ?_
        refine And.intro (rfl) ?_
        refine Exists.intro _ (And.intro (fold_no hl hb) ?_)
        refine acode_seq ?_
        refine acode_seq ?_
        refine acode_region ?_
        refine Or.inl ?_
        refine And.intro (rfl) ?_
        refine Exists.intro _ (And.intro (fields_self l) ?_)
        refine acode_cond rfl (fun h23 => ?_) (fun h23 => ?_)
        · try simp only [Bool.not_eq_true'] at h23
          try simp only [Int.toNat_natCast, dflt_sl, dflt_st, dflt_str, dflt_int, dflt_bool] at h23
          cases h23
        · try simp only [Bool.not_eq_false'] at h23
          try simp only [Int.toNat_natCast, dflt_sl, dflt_st, dflt_str, dflt_int, dflt_bool] at h23
          refine acode_skip ?_
          refine acode_seq ?_
          refine acode_seq ?_
          refine acode_region ?_
          intro l9_1
          try simp only [Int.toNat_natCast, dflt_sl, dflt_st, dflt_str, dflt_int, dflt_bool] at l9_1
          refine acode_block ?_
          refine acode_loopP (fun (i : Nat) => i ≤ l.length ∧ ∀ f ∈ l.take i, checkF f = 0) (fun (i : Nat) => [(0, .one (.sl rFld l)), (4, is ⟨#[]⟩), (5, .one (errN (badF l))), (24, .one (.sl rFld l)), (25, ii .i64 l.length), (26, ii .i64 i)]) (fun (i : Nat) => []) 0 (fun (i : Nat) => l.length - i) 0 (⟨Nat.zero_le _, by simp⟩) (le_of ⟨rfl, rfl, rfl, rfl, rfl, rfl⟩ trivial rfl) ?_
          intro i hI0
          refine acode_seq ?_
          refine acode_region ?_
          refine acode_seq ?_
          refine acode_cond rfl (fun h27 => ?_) (fun h27 => ?_)
          · try simp only [decide_eq_true_eq] at h27
            try simp only [Int.toNat_natCast, dflt_sl, dflt_st, dflt_str, dflt_int, dflt_bool] at h27
            have hlt : i < l.length := by omega
            have hm := hl.2 _ (getD_mem hlt (ByteArray.empty, ByteArray.empty))
            refine acode_skip ?_
            refine acode_seq ?_
            refine acode_block ?_
            refine acode_seq ?_
            refine acode_region ?_
            refine And.intro (by first | omega | assumption | decide | (simp only [Int.toNat_natCast, dflt_sl, dflt_st, dflt_str, dflt_int, dflt_bool]; omega) | (simp <;> omega)) ?_
            refine acode_seq ?_
            refine acode_region ?_
            refine Or.inl ?_
            refine And.intro (rfl) ?_
            refine Exists.intro _ (And.intro (refCheck_c (l.getD i (ByteArray.empty, ByteArray.empty)) (by omega)) ?_)
            refine acode_seq ?_
            refine acode_region ?_
            refine acode_cond rfl (fun h33 => ?_) (fun h33 => ?_)
            · try simp only [decide_eq_false_iff_not, Bool.not_eq_true'] at h33
              try simp only [Int.toNat_natCast, dflt_sl, dflt_st, dflt_str, dflt_int, dflt_bool] at h33
              have hbi : badF l = checkF (l.getD i (ByteArray.empty, ByteArray.empty)) := badF_at (ByteArray.empty, ByteArray.empty) hlt hI0.2 h33
              refine acode_seq ?_
              refine acode_region ?_
              refine Or.inl ?_
              refine And.intro (rfl) ?_
              refine Exists.intro _ (And.intro (num_errno _ hb) ?_)
              refine And.intro (fun h => trivial) ?_
              refine And.intro (fun h => ⟨⟨h, trivial⟩, trivial⟩) ?_
              refine And.intro (by exact fun h => h) ?_
              refine acode_ret ?_
              exact ib_eq (by rw [hbi]; simp)
            · try simp only [decide_eq_true_eq, Bool.not_eq_false'] at h33
              try simp only [Int.toNat_natCast, dflt_sl, dflt_st, dflt_str, dflt_int, dflt_bool] at h33
              refine acode_skip ?_
              refine acode_region ?_
              refine And.intro (by first | omega | assumption | decide | (simp only [Int.toNat_natCast, dflt_sl, dflt_st, dflt_str, dflt_int, dflt_bool]; omega) | (simp <;> omega)) ?_
              exact ⟨i + 1, ⟨by omega, by rw [← take_snoc (ByteArray.empty, ByteArray.empty) hlt]; intro f hf; rcases List.mem_append.1 hf with h|h; exact hI0.2 f h; rw [List.mem_singleton.1 h]; exact h33⟩, by first | omega | (simp <;> omega), le_of ⟨rfl, rfl, rfl, rfl, rfl, (ii_eq (by omega))⟩ trivial rfl⟩
          · try simp only [decide_eq_false_iff_not, Int.not_lt] at h27
            try simp only [Int.toNat_natCast, dflt_sl, dflt_st, dflt_str, dflt_int, dflt_bool] at h27
            exact absurd (badF_ok (by have := hI0.2; rw [List.take_of_length_le (by omega)] at this; exact this)) hb
end Q
end Ab
end Go.Proofs.YtdedkoiodehmnaaDoor
namespace Go.Proofs.YtdedkoiodehmnaaDoor
open Go.RowKit
namespace Ab
set_option maxRecDepth 100000
namespace Q
theorem refUnfold_v (l : List ByteArray) (hl : LinesOk l) {k v : List UInt8} {n : Int} (h : unfoldL (l.map ls) = ((k, v), n)) : ACall Tryd.prog 32 [.one (.sl .str l)] (.tup [(true, [.lit (.string (bytes k)), .lit (.string (bytes v))]), (false, [.lit (.int .i64 n)])]) := by
  rw [← refUnfA_eq h]
  cases l with
  | nil => exact refUnfold_e
  | cons s r => exact refUnfold_c s r hl
theorem refLines_kv (k v : List UInt8) (hk : keyOk k = true) (hv : v.length ≤ 1000) : ACall Tryd.prog 30 [.agg (toL rFld (bytes k, bytes v))] (.one (.sl .str (lineB (bytes k) (bytes v)))) := by
  have h1 := keyOk_len hk
  exact refLines_c (bytes k, bytes v) (by rw [bytes_size]; omega) (by rw [bytes_size]; omega)
theorem refPlain_c (l : List ByteArray) (hl : LinesOk l) : ACall Tryd.prog 33 [.one (.sl .str l)] (ib (plainL l)) := by
  refine acall_of (rs := [2]) Tryd.func33 rfl rfl rfl teOk rfl ?_
  refine acode_seq ?_
  refine acode_region ?_
  refine acode_seq ?_
  rcases unf_cases (l.map ls) with ⟨n, hn, hu⟩ | ⟨k, v, hu, hk, hv⟩
  · refine acode_region ?_
    refine Or.inl ?_
    refine And.intro (rfl) ?_
    refine Exists.intro _ (And.intro (refUnfold_v l hl hu) ?_)
    refine acode_seq ?_
    refine acode_seq ?_
    refine acode_region ?_
    refine acode_cond rfl (fun h13 => ?_) (fun h13 => ?_)
    · try simp only [decide_eq_false_iff_not, Bool.not_eq_true'] at h13
      try simp only [Int.toNat_natCast, dflt_sl, dflt_st, dflt_str, dflt_int, dflt_bool] at h13
      refine acode_seq ?_
      refine acode_region ?_
      refine acode_ret ?_
      exact ib_eq (plain_bad hu hn).symm
    · try simp only [decide_eq_true_eq, Bool.not_eq_false'] at h13
      try simp only [Int.toNat_natCast, dflt_sl, dflt_st, dflt_str, dflt_int, dflt_bool] at h13
      exfalso; rcases hn with rfl | rfl <;> exact absurd h13 (by decide)
  · refine acode_region ?_
    refine Or.inl ?_
    refine And.intro (rfl) ?_
    refine Exists.intro _ (And.intro (refUnfold_v l hl hu) ?_)
    refine acode_seq ?_
    refine acode_seq ?_
    refine acode_region ?_
    refine acode_cond rfl (fun h13 => ?_) (fun h13 => ?_)
    · try simp only [decide_eq_false_iff_not, Bool.not_eq_true'] at h13
      try simp only [Int.toNat_natCast, dflt_sl, dflt_st, dflt_str, dflt_int, dflt_bool] at h13
      exact absurd trivial h13
    · try simp only [decide_eq_true_eq, Bool.not_eq_false'] at h13
      try simp only [Int.toNat_natCast, dflt_sl, dflt_st, dflt_str, dflt_int, dflt_bool] at h13
      refine acode_skip ?_
      refine acode_seq ?_
      refine acode_region ?_
      refine Or.inl ?_
      refine And.intro (rfl) ?_
      refine Exists.intro _ (And.intro (refLines_kv k v hk hv) ?_)
      refine acode_seq ?_
      refine acode_seq ?_
      refine acode_region ?_
      intro l5_1
      try simp only [Int.toNat_natCast, dflt_sl, dflt_st, dflt_str, dflt_int, dflt_bool] at l5_1
      intro l5_3
      try simp only [Int.toNat_natCast, dflt_sl, dflt_st, dflt_str, dflt_int, dflt_bool] at l5_3
      refine acode_cond rfl (fun h20 => ?_) (fun h20 => ?_)
      · try simp only [decide_eq_false_iff_not, Bool.not_eq_true'] at h20
        try simp only [Int.toNat_natCast, dflt_sl, dflt_st, dflt_str, dflt_int, dflt_bool] at h20
        refine acode_seq ?_
        refine acode_region ?_
        refine acode_ret ?_
        exact ib_eq (by rw [plain_ok hu]; exact (decide_eq_false (fun e => h20 (by rw [e]))).symm)
      · try simp only [decide_eq_true_eq, Bool.not_eq_false'] at h20
        try simp only [Int.toNat_natCast, dflt_sl, dflt_st, dflt_str, dflt_int, dflt_bool] at h20
        refine acode_skip ?_
        refine acode_seq ?_
        refine acode_seq ?_
        refine acode_region ?_
        refine acode_block ?_
        refine acode_loopP (fun (i : Nat) => i ≤ l.length ∧ l.take i = (lineB (bytes k) (bytes v)).take i) (fun (i : Nat) => [(0, .one (.sl .str l)), (5, .one (.sl .str (lineB (bytes k) (bytes v)))), (6, ii .i64 i)]) (fun (i : Nat) => []) 0 (fun (i : Nat) => l.length - i) 0 (⟨Nat.zero_le _, by simp⟩) (le_of ⟨rfl, rfl, rfl⟩ trivial rfl) ?_
        intro i hI0
        obtain ⟨hi, ht⟩ := hI0
        refine acode_seq ?_
        refine acode_seq ?_
        refine acode_region ?_
        intro l8_2
        try simp only [Int.toNat_natCast, dflt_sl, dflt_st, dflt_str, dflt_int, dflt_bool] at l8_2
        refine acode_cond rfl (fun h24 => ?_) (fun h24 => ?_)
        · try simp only [decide_eq_true_eq] at h24
          try simp only [Int.toNat_natCast, dflt_sl, dflt_st, dflt_str, dflt_int, dflt_bool] at h24
          have hla : i < l.length := by omega
          have hlb : i < (lineB (bytes k) (bytes v)).length := by omega
          refine acode_skip ?_
          refine acode_seq ?_
          refine acode_block ?_
          refine acode_seq ?_
          refine acode_draw rfl (by kernel_rfl) ?_
          refine And.intro (by first | omega | assumption | decide | (simp only [Int.toNat_natCast, dflt_sl, dflt_st, dflt_str, dflt_int, dflt_bool]; omega) | (simp <;> omega)) ?_
          refine And.intro (by first | omega | assumption | decide | (simp only [Int.toNat_natCast, dflt_sl, dflt_st, dflt_str, dflt_int, dflt_bool]; omega) | (simp <;> omega)) ?_
          refine acode_cond rfl (fun h35 => ?_) (fun h35 => ?_)
          · try simp only [decide_eq_false_iff_not, Bool.not_eq_true'] at h35
            try simp only [Int.toNat_natCast, dflt_str] at h35
            refine acode_seq ?_
            refine acode_region ?_
            refine acode_ret ?_
            exact ib_eq (by rw [plain_ok hu]; exact (decide_eq_false (fun e => h35 (by rw [e]))).symm)
          · try simp only [decide_eq_true_eq, Bool.not_eq_false'] at h35
            try simp only [Int.toNat_natCast, dflt_str] at h35
            refine acode_skip ?_
            refine acode_region ?_
            refine And.intro (by first | omega | assumption | decide | (simp only [Int.toNat_natCast, dflt_sl, dflt_st, dflt_str, dflt_int, dflt_bool]; omega) | (simp <;> omega)) ?_
            exact ⟨i + 1, ⟨by omega, list_ext_take ByteArray.empty hla hlb ht h35⟩, by first | omega | (simp <;> omega), le_of ⟨rfl, rfl, (ii_eq (by omega))⟩ trivial rfl⟩
        · try simp only [decide_eq_false_iff_not, Int.not_lt] at h24
          try simp only [Int.toNat_natCast, dflt_sl, dflt_st, dflt_str, dflt_int, dflt_bool] at h24
          refine acode_exit ?_
          refine acode_seq ?_
          refine acode_region ?_
          refine acode_ret ?_
          exact ib_eq (by rw [plain_ok hu]; exact (decide_eq_true (by rw [List.take_of_length_le (by omega), List.take_of_length_le (by omega)] at ht; exact ht.symm)).symm)
def sumS (l : List ByteArray) : Nat := (l.map fun s => min s.size 9999).sum
theorem sumS_take (l : List ByteArray) (i : Nat) (h : i < l.length) : sumS (l.take (i + 1)) = sumS (l.take i) + min (l.getD i ByteArray.empty).size 9999 := by
  rw [← take_snoc ByteArray.empty h, sumS, List.map_append, List.sum_append]
  simp [sumS]
theorem sumS_ok : ∀ {l : List ByteArray}, sumS l ≤ 4000 → (l.map (·.size)).sum ≤ 4000
  | [], _ => by simp
  | a :: r, h => by
    have h0 : sumS (a :: r) = min a.size 9999 + sumS r := rfl
    rw [h0] at h
    have h1 := sumS_ok (l := r)
    have h2 : (r.map (·.size)).sum = sumS r := by
      unfold sumS
      clear h0 h1
      induction r with
      | nil => rfl
      | cons b t ih =>
        have h3 : sumS (b :: t) = min b.size 9999 + sumS t := rfl
        rw [h3] at h
        simp only [List.map_cons, List.sum_cons]
        have := ih (by omega)
        omega
    simp only [List.map_cons, List.sum_cons]
    omega
theorem FoldUnfolds_c (l : List ByteArray) : ACall Tryd.prog 6 [.one (.sl .str l)] (ib true) := by
  refine acall_of (rs := [2]) Tryd.func6 rfl rfl rfl teOk rfl ?_
  refine acode_seq ?_
  refine acode_region ?_
  refine acode_seq ?_
  refine acode_seq ?_
  refine acode_region ?_
  refine Or.inl ?_
  refine And.intro (rfl) ?_
  refine Exists.intro _ (And.intro (falive_c) ?_)
  refine acode_cond rfl (fun h12 => ?_) (fun h12 => ?_)
  · try simp only [Bool.not_eq_true'] at h12
    try simp only [Int.toNat_natCast, dflt_sl, dflt_st, dflt_str, dflt_int, dflt_bool] at h12
    cases h12
  · try simp only [Bool.not_eq_false'] at h12
    try simp only [Int.toNat_natCast, dflt_sl, dflt_st, dflt_str, dflt_int, dflt_bool] at h12
    refine acode_skip ?_
    refine acode_seq ?_
    refine acode_region ?_
    refine acode_seq ?_
    refine acode_seq ?_
    refine acode_region ?_
    intro l4_1
    try simp only [Int.toNat_natCast, dflt_sl, dflt_st, dflt_str, dflt_int, dflt_bool] at l4_1
    refine acode_block ?_
    refine acode_loopP (fun (i : Nat) => i ≤ l.length ∧ i ≤ 61 ∧ sumS (l.take i) ≤ 4000) (fun (i : Nat) => [(0, .one (.sl .str l)), (3, ii .i64 (sumS (l.take i))), (13, .one (.sl .str l)), (14, ii .i64 l.length), (15, ii .i64 i)]) (fun (i : Nat) => []) 0 (fun (i : Nat) => l.length - i) 0 (⟨Nat.zero_le _, Nat.zero_le _, Nat.zero_le _⟩) (le_of ⟨rfl, rfl, rfl, rfl, rfl⟩ trivial rfl) ?_
    intro i hI0
    obtain ⟨hi, hi2, hn⟩ := hI0
    refine acode_seq ?_
    refine acode_region ?_
    refine acode_seq ?_
    refine acode_cond rfl (fun h16 => ?_) (fun h16 => ?_)
    · try simp only [decide_eq_true_eq] at h16
      try simp only [Int.toNat_natCast, dflt_sl, dflt_st, dflt_str, dflt_int, dflt_bool] at h16
      have hs := sumS_take l i (by omega)
      refine acode_skip ?_
      refine acode_seq ?_
      refine acode_block ?_
      refine acode_seq ?_
      refine acode_region ?_
      refine And.intro (by first | omega | assumption | decide | (simp only [Int.toNat_natCast, dflt_sl, dflt_st, dflt_str, dflt_int, dflt_bool]; omega) | (simp <;> omega)) ?_
      refine acode_seq ?_
      refine acode_region ?_
      refine And.intro (by first | omega | assumption | decide | (simp only [Int.toNat_natCast, dflt_sl, dflt_st, dflt_str, dflt_int, dflt_bool]; omega) | (simp <;> omega)) ?_
      refine acode_seq ?_
      refine acode_region ?_
      refine And.intro (fun h => trivial) ?_
      refine And.intro (fun h => ⟨⟨h, trivial⟩, trivial⟩) ?_
      refine And.intro (by first | (intro h; rw [h]; rfl) | (intro h; cases h)) ?_
      refine acode_cond rfl (fun h30 => ?_) (fun h30 => ?_)
      · try simp only [decide_eq_true_eq, Bool.or_eq_true] at h30
        try simp only [Int.toNat_natCast, dflt_str] at h30
        refine acode_seq ?_
        refine acode_region ?_
        refine acode_ret ?_
        rfl
      · try simp only [decide_eq_false_iff_not, Bool.or_eq_false_iff, Int.not_lt] at h30
        try simp only [Int.toNat_natCast, dflt_str] at h30
        refine acode_skip ?_
        refine acode_region ?_
        refine And.intro (by first | omega | assumption | decide | (simp only [Int.toNat_natCast, dflt_sl, dflt_st, dflt_str, dflt_int, dflt_bool]; omega) | (simp <;> omega)) ?_
        exact ⟨i + 1, ⟨by omega, by omega, by omega⟩, by first | omega | (simp <;> omega), le_of ⟨rfl, (ii_eq (by (simp only [Int.toNat_natCast, dflt_str]; omega))), rfl, rfl, (ii_eq (by omega))⟩ trivial rfl⟩
    · try simp only [decide_eq_false_iff_not, Int.not_lt] at h16
      try simp only [Int.toNat_natCast, dflt_sl, dflt_st, dflt_str, dflt_int, dflt_bool] at h16
      rw [List.take_of_length_le (by omega)] at hn
      have hl : LinesOk l := ⟨by omega, by have := sumS_ok hn; omega⟩
      refine acode_exit ?_
      refine acode_seq ?_
      refine acode_region ?_
      refine And.intro (by first | exact app_le (by first | omega | (simp only [List.length_nil]; omega) | (simp; omega)) (by decide) | omega | assumption | decide | (simp only [Int.toNat_natCast, dflt_sl, dflt_st, dflt_str, dflt_int, dflt_bool]; omega) | (simp <;> omega)) ?_
      refine acode_seq ?_
      rcases unf_cases (l.map ls) with ⟨n, hn, hu⟩ | ⟨k, v, hu, hk, hv⟩
      · refine acode_region ?_
        refine Or.inl ?_
        refine And.intro (rfl) ?_
        refine Exists.intro _ (And.intro (unfold_bad l hl hu hn) ?_)
        refine acode_seq ?_
        refine acode_region ?_
        refine Or.inl ?_
        refine And.intro (rfl) ?_
        refine Exists.intro _ (And.intro (refUnfold_v l hl hu) ?_)
        refine acode_seq ?_
        refine acode_region ?_
        refine And.intro (by rfl) ?_
        refine And.intro (fun h => trivial) ?_
        refine And.intro (rfl) ?_
        refine Exists.intro _ (And.intro (fun h => ⟨⟨⟨h, trivial⟩, trivial⟩, num_errno n (by rcases hn with rfl | rfl <;> decide)⟩) ?_)
        refine And.intro (fun h => trivial) ?_
        refine And.intro (fun h => ⟨⟨h, trivial⟩, ⟨h, trivial⟩, trivial⟩) ?_
        refine And.intro (by exact fun h => h) ?_
        refine And.intro (fun h => trivial) ?_
        refine And.intro (rfl) ?_
        refine Exists.intro _ (And.intro (fun h => ⟨⟨⟨h, trivial⟩, trivial⟩, plain_c l hl⟩) ?_)
        refine And.intro (fun h => trivial) ?_
        refine And.intro (rfl) ?_
        refine Exists.intro _ (And.intro (fun h => ⟨⟨⟨h, trivial⟩, trivial⟩, refPlain_c l hl⟩) ?_)
        refine And.intro (fun h => ⟨⟨h, trivial⟩, ⟨h, trivial⟩, trivial⟩) ?_
        refine And.intro (by exact fun h => h) ?_
        refine And.intro (fun h => trivial) ?_
        refine And.intro (fun h => trivial) ?_
        refine And.intro (rfl) ?_
        refine Exists.intro _ (And.intro (fun h => ⟨⟨⟨h, trivial⟩, ⟨h, trivial⟩, trivial⟩, texts_c l l⟩) ?_)
        refine And.intro (by exact fun h => h) ?_
        refine acode_ret ?_
        exact ib_eq (by simp; rfl)
      · refine acode_region ?_
        refine Or.inl ?_
        refine And.intro (rfl) ?_
        refine Exists.intro _ (And.intro (unfold_ok l hl hu) ?_)
        refine acode_seq ?_
        refine acode_region ?_
        refine Or.inl ?_
        refine And.intro (rfl) ?_
        refine Exists.intro _ (And.intro (refUnfold_v l hl hu) ?_)
        refine acode_seq ?_
        refine acode_region ?_
        refine And.intro (by rfl) ?_
        refine And.intro (fun h => trivial) ?_
        refine And.intro (rfl) ?_
        refine Exists.intro _ (And.intro (fun h => ⟨⟨⟨h, trivial⟩, trivial⟩, num_nil⟩) ?_)
        refine And.intro (fun h => trivial) ?_
        refine And.intro (fun h => ⟨⟨h, trivial⟩, ⟨h, trivial⟩, trivial⟩) ?_
        refine And.intro (by exact fun h => h) ?_
        refine And.intro (fun h => trivial) ?_
        refine And.intro (rfl) ?_
        refine Exists.intro _ (And.intro (fun h => ⟨⟨⟨h, trivial⟩, trivial⟩, plain_c l hl⟩) ?_)
        refine And.intro (fun h => trivial) ?_
        refine And.intro (rfl) ?_
        refine Exists.intro _ (And.intro (fun h => ⟨⟨⟨h, trivial⟩, trivial⟩, refPlain_c l hl⟩) ?_)
        refine And.intro (fun h => ⟨⟨h, trivial⟩, ⟨h, trivial⟩, trivial⟩) ?_
        refine And.intro (by exact fun h => h) ?_
        refine And.intro (fun h => trivial) ?_
        refine And.intro (fun h => trivial) ?_
        refine And.intro (rfl) ?_
        refine Exists.intro _ (And.intro (fun h => ⟨⟨⟨h, trivial⟩, ⟨h, trivial⟩, trivial⟩, texts_c l l⟩) ?_)
        refine And.intro (by exact fun h => h) ?_
        refine acode_ret ?_
        exact ib_eq (by simp)
theorem sum_const_le {α : Type} (f : α → Nat) (B : Nat) : ∀ l : List α, (∀ x ∈ l, f x ≤ B) → (l.map f).sum ≤ l.length * B
  | [], _ => by simp
  | a :: r, h => by
    rw [List.map_cons, List.sum_cons, List.length_cons, Nat.succ_mul]
    have := h a (by simp)
    have := sum_const_le f B r fun x hx => h x (by simp [hx])
    omega
theorem lineB_map (k v : ByteArray) : (lineB k v).map ls = linesL k.data.toList v.data.toList := by
  unfold lineB
  rw [List.map_map]
  conv => rhs; rw [← List.map_id (linesL k.data.toList v.data.toList)]
  exact List.map_congr_left fun s _ => bytes_list s
theorem lineB_ok {f : Fld} (h : checkF f = 0) : LinesOk (lineB f.1 f.2) ∧ unfoldL ((lineB f.1 f.2).map ls) = ((f.1.data.toList, f.2.data.toList), 0) := by
  obtain ⟨h1, h2, h3⟩ := check_ok h
  rw [size_list] at h2 h3
  obtain ⟨h4, h5⟩ := line_len h3 h2
  refine ⟨⟨?_, ?_⟩, by rw [lineB_map]; exact unfold_lines h1 h2⟩
  · rw [tlines]; omega
  · have := sum_const_le (fun s : ByteArray => s.size) 2000 (lineB f.1 f.2) (fun s hs => by
      unfold lineB at hs
      obtain ⟨x, hx, rfl⟩ := List.mem_map.1 hs
      rw [bytes_size]
      exact h5 x hx)
    rw [tlines] at this
    have : (linesL f.1.data.toList f.2.data.toList).length * 2000 ≤ 2000 * 2000 := Nat.mul_le_mul_right _ h4
    omega
theorem lines_v {f : Fld} {n : Int} (h : checkF f = n) (hn : n ≠ 0) (hk : f.1.size ≤ 1000000) (hv : f.2.size ≤ 1000000) : ACall Tryd.prog 23 [.agg (toL rFld f)] (.tup [(false, [.sl .str []]), (false, [errN n])]) := by
  have := lines_c f hk hv
  rw [linesA_bad h hn] at this
  exact this
theorem lines_z {f : Fld} (h : checkF f = 0) (hk : f.1.size ≤ 1000000) (hv : f.2.size ≤ 1000000) : ACall Tryd.prog 23 [.agg (toL rFld f)] (.tup [(false, [.sl .str (lineB f.1 f.2)]), (false, [.lit .nilIface])]) := by
  have := lines_c f hk hv
  rw [linesA_ok h] at this
  exact this
theorem unfold_f {f : Fld} (h : checkF f = 0) : ACall Tryd.prog 28 [.one (.sl .str (lineB f.1 f.2))] (.tup [(true, [.lit (.string f.1), .lit (.string f.2)]), (false, [.lit .nilIface])]) := by
  obtain ⟨h1, h2⟩ := lineB_ok h
  have := unfold_ok _ h1 h2
  rw [show bytes f.1.data.toList = f.1 from bytes_ls f.1, show bytes f.2.data.toList = f.2 from bytes_ls f.2] at this
  exact this
theorem plain_f {f : Fld} (h : checkF f = 0) : ACall Tryd.prog 31 [.one (.sl .str (lineB f.1 f.2))] (ib true) := by
  obtain ⟨h1, h2⟩ := lineB_ok h
  have := plain_c _ h1
  rw [plain_ok h2, show bytes f.1.data.toList = f.1 from bytes_ls f.1, show bytes f.2.data.toList = f.2 from bytes_ls f.2, decide_eq_true rfl] at this
  exact this
theorem FoldFolds_c (f : Fld) : ACall Tryd.prog 5 [.agg (toL rFld f)] (ib true) := by
  refine acall_of (rs := [2]) Tryd.func5 rfl rfl rfl teOk rfl ?_
  refine acode_seq ?_
  refine acode_region ?_
  refine acode_seq ?_
  refine acode_seq ?_
  refine acode_region ?_
  refine Or.inl ?_
  refine And.intro (rfl) ?_
  refine Exists.intro _ (And.intro (falive_c) ?_)
  refine acode_cond rfl (fun h8 => ?_) (fun h8 => ?_)
  · try simp only [Bool.not_eq_true'] at h8
    try simp only [Int.toNat_natCast, dflt_sl, dflt_st, dflt_str, dflt_int, dflt_bool] at h8
    cases h8
  · try simp only [Bool.not_eq_false'] at h8
    try simp only [Int.toNat_natCast, dflt_sl, dflt_st, dflt_str, dflt_int, dflt_bool] at h8
    refine acode_skip ?_
    refine acode_seq ?_
    refine acode_seq ?_
    refine acode_region ?_
    refine And.intro (fun h => trivial) ?_
    refine And.intro (fun h => ⟨⟨h, trivial⟩, trivial⟩) ?_
    refine And.intro (fun h => ⟨⟨h, trivial⟩, trivial⟩) ?_
    refine And.intro (fun h => ⟨⟨h, trivial⟩, trivial⟩) ?_
    refine And.intro (by first | (intro h; rw [h]; rfl) | (intro h; cases h)) ?_
    refine acode_cond rfl (fun h18 => ?_) (fun h18 => ?_)
    · try simp only [decide_eq_true_eq, Bool.or_eq_true] at h18
      try simp only [Int.toNat_natCast, dflt_sl, dflt_st, dflt_str, dflt_int, dflt_bool] at h18
      refine acode_seq ?_
      refine acode_region ?_
      refine acode_ret ?_
      rfl
    · try simp only [decide_eq_false_iff_not, Bool.or_eq_false_iff, Int.not_lt] at h18
      try simp only [Int.toNat_natCast, dflt_sl, dflt_st, dflt_str, dflt_int, dflt_bool] at h18
      obtain ⟨hk, hv⟩ := h18
      refine acode_skip ?_
      refine acode_seq ?_
      rcases check_cases f with hc|hc|hc
      · refine acode_region ?_
        refine Or.inl ?_
        refine And.intro (rfl) ?_
        refine Exists.intro _ (And.intro (lines_v hc (by decide) (by omega) (by omega)) ?_)
        refine acode_seq ?_
        refine acode_region ?_
        refine Or.inl ?_
        refine And.intro (rfl) ?_
        refine Exists.intro _ (And.intro (refCheck_v f _ (by omega) hc) ?_)
        refine acode_seq ?_
        refine acode_seq ?_
        refine acode_region ?_
        refine Or.inl ?_
        refine And.intro (rfl) ?_
        refine Exists.intro _ (And.intro ((check_v f 5 (by omega) hc : ACall _ _ _ (.one (errN 5)))) ?_)
        refine Or.inl ?_
        refine And.intro (rfl) ?_
        refine Exists.intro _ (And.intro (num_errno 5 (by decide)) ?_)
        refine And.intro (fun h => trivial) ?_
        refine And.intro (rfl) ?_
        refine Exists.intro _ (And.intro (fun h => ⟨⟨⟨h, trivial⟩, trivial⟩, num_errno 5 (by decide)⟩) ?_)
        refine And.intro (fun h => trivial) ?_
        refine And.intro (fun h => ⟨⟨h, trivial⟩, ⟨h, trivial⟩, trivial⟩) ?_
        refine And.intro (by first | (intro h; rw [h]; rfl) | (intro h; cases h)) ?_
        refine acode_cond rfl (fun h36 => ?_) (fun h36 => ?_)
        · try simp only [decide_eq_false_iff_not, Bool.not_eq_true', Bool.or_eq_true] at h36
          try simp only [Int.toNat_natCast, dflt_sl, dflt_st, dflt_str, dflt_int, dflt_bool] at h36
          exact absurd h36 (by decide)
        · try simp only [decide_eq_true_eq, Bool.not_eq_false', Bool.or_eq_false_iff] at h36
          try simp only [Int.toNat_natCast, dflt_sl, dflt_st, dflt_str, dflt_int, dflt_bool] at h36
          refine acode_skip ?_
          refine acode_seq ?_
          refine acode_seq ?_
          refine acode_region ?_
          refine acode_cond rfl (fun h38 => ?_) (fun h38 => ?_)
          · try simp only [decide_eq_false_iff_not, Bool.not_eq_true'] at h38
            try simp only [Int.toNat_natCast, dflt_sl, dflt_st, dflt_str, dflt_int, dflt_bool] at h38
            refine acode_seq ?_
            refine acode_region ?_
            intro l10_1
            try simp only [Int.toNat_natCast, dflt_sl, dflt_st, dflt_str, dflt_int, dflt_bool] at l10_1
            refine acode_ret ?_
            rfl
          · try simp only [decide_eq_true_eq, Bool.not_eq_false'] at h38
            try simp only [Int.toNat_natCast, dflt_sl, dflt_st, dflt_str, dflt_int, dflt_bool] at h38
            exact absurd h38 (by decide)
      · refine acode_region ?_
        refine Or.inl ?_
        refine And.intro (rfl) ?_
        refine Exists.intro _ (And.intro (lines_v hc (by decide) (by omega) (by omega)) ?_)
        refine acode_seq ?_
        refine acode_region ?_
        refine Or.inl ?_
        refine And.intro (rfl) ?_
        refine Exists.intro _ (And.intro (refCheck_v f _ (by omega) hc) ?_)
        refine acode_seq ?_
        refine acode_seq ?_
        refine acode_region ?_
        refine Or.inl ?_
        refine And.intro (rfl) ?_
        refine Exists.intro _ (And.intro ((check_v f 6 (by omega) hc : ACall _ _ _ (.one (errN 6)))) ?_)
        refine Or.inl ?_
        refine And.intro (rfl) ?_
        refine Exists.intro _ (And.intro (num_errno 6 (by decide)) ?_)
        refine And.intro (fun h => trivial) ?_
        refine And.intro (rfl) ?_
        refine Exists.intro _ (And.intro (fun h => ⟨⟨⟨h, trivial⟩, trivial⟩, num_errno 6 (by decide)⟩) ?_)
        refine And.intro (fun h => trivial) ?_
        refine And.intro (fun h => ⟨⟨h, trivial⟩, ⟨h, trivial⟩, trivial⟩) ?_
        refine And.intro (by first | (intro h; rw [h]; rfl) | (intro h; cases h)) ?_
        refine acode_cond rfl (fun h36 => ?_) (fun h36 => ?_)
        · try simp only [decide_eq_false_iff_not, Bool.not_eq_true', Bool.or_eq_true] at h36
          try simp only [Int.toNat_natCast, dflt_sl, dflt_st, dflt_str, dflt_int, dflt_bool] at h36
          exact absurd h36 (by decide)
        · try simp only [decide_eq_true_eq, Bool.not_eq_false', Bool.or_eq_false_iff] at h36
          try simp only [Int.toNat_natCast, dflt_sl, dflt_st, dflt_str, dflt_int, dflt_bool] at h36
          refine acode_skip ?_
          refine acode_seq ?_
          refine acode_seq ?_
          refine acode_region ?_
          refine acode_cond rfl (fun h38 => ?_) (fun h38 => ?_)
          · try simp only [decide_eq_false_iff_not, Bool.not_eq_true'] at h38
            try simp only [Int.toNat_natCast, dflt_sl, dflt_st, dflt_str, dflt_int, dflt_bool] at h38
            refine acode_seq ?_
            refine acode_region ?_
            intro l10_1
            try simp only [Int.toNat_natCast, dflt_sl, dflt_st, dflt_str, dflt_int, dflt_bool] at l10_1
            refine acode_ret ?_
            rfl
          · try simp only [decide_eq_true_eq, Bool.not_eq_false'] at h38
            try simp only [Int.toNat_natCast, dflt_sl, dflt_st, dflt_str, dflt_int, dflt_bool] at h38
            exact absurd h38 (by decide)
      · refine acode_region ?_
        refine Or.inl ?_
        refine And.intro (rfl) ?_
        refine Exists.intro _ (And.intro (lines_z hc (by omega) (by omega)) ?_)
        refine acode_seq ?_
        refine acode_region ?_
        refine Or.inl ?_
        refine And.intro (rfl) ?_
        refine Exists.intro _ (And.intro (refCheck_v f _ (by omega) hc) ?_)
        refine acode_seq ?_
        refine acode_seq ?_
        refine acode_region ?_
        refine Or.inl ?_
        refine And.intro (rfl) ?_
        refine Exists.intro _ (And.intro ((check_v f 0 (by omega) hc : ACall _ _ _ (.one (.lit .nilIface)))) ?_)
        refine Or.inl ?_
        refine And.intro (rfl) ?_
        refine Exists.intro _ (And.intro (num_nil) ?_)
        refine And.intro (fun h => trivial) ?_
        refine And.intro (rfl) ?_
        refine Exists.intro _ (And.intro (fun h => ⟨⟨⟨h, trivial⟩, trivial⟩, num_nil⟩) ?_)
        refine And.intro (fun h => trivial) ?_
        refine And.intro (fun h => ⟨⟨h, trivial⟩, ⟨h, trivial⟩, trivial⟩) ?_
        refine And.intro (by first | (intro h; rw [h]; rfl) | (intro h; cases h)) ?_
        refine acode_cond rfl (fun h36 => ?_) (fun h36 => ?_)
        · try simp only [decide_eq_false_iff_not, Bool.not_eq_true', Bool.or_eq_true] at h36
          try simp only [Int.toNat_natCast, dflt_sl, dflt_st, dflt_str, dflt_int, dflt_bool] at h36
          exact absurd h36 (by decide)
        · try simp only [decide_eq_true_eq, Bool.not_eq_false', Bool.or_eq_false_iff] at h36
          try simp only [Int.toNat_natCast, dflt_sl, dflt_st, dflt_str, dflt_int, dflt_bool] at h36
          refine acode_skip ?_
          refine acode_seq ?_
          refine acode_seq ?_
          refine acode_region ?_
          refine acode_cond rfl (fun h38 => ?_) (fun h38 => ?_)
          · try simp only [decide_eq_false_iff_not, Bool.not_eq_true'] at h38
            try simp only [Int.toNat_natCast, dflt_sl, dflt_st, dflt_str, dflt_int, dflt_bool] at h38
            exact absurd h38 (by decide)
          · try simp only [decide_eq_true_eq, Bool.not_eq_false'] at h38
            try simp only [Int.toNat_natCast, dflt_sl, dflt_st, dflt_str, dflt_int, dflt_bool] at h38
            refine acode_skip ?_
            refine acode_seq ?_
            refine acode_region ?_
            refine Or.inl ?_
            refine And.intro (rfl) ?_
            refine Exists.intro _ (And.intro (unfold_f hc) ?_)
            refine acode_seq ?_
            refine acode_region ?_
            refine And.intro (fun h => trivial) ?_
            refine And.intro (fun h => trivial) ?_
            refine And.intro (fun h => ⟨⟨⟨h, trivial⟩, ⟨h, trivial⟩, trivial⟩, by rfl⟩) ?_
            refine And.intro (by exact fun h => h) ?_
            refine And.intro (fun h => trivial) ?_
            refine And.intro (fun h => trivial) ?_
            refine And.intro (rfl) ?_
            refine Exists.intro _ (And.intro (fun h => ⟨⟨⟨h, trivial⟩, trivial⟩, refLines_c f (by omega) (by omega)⟩) ?_)
            refine And.intro (rfl) ?_
            refine Exists.intro _ (And.intro (fun h => ⟨⟨⟨h, trivial⟩, ⟨h, trivial⟩, trivial⟩, texts_c _ _⟩) ?_)
            refine And.intro (by exact fun h => h) ?_
            refine And.intro (fun h => trivial) ?_
            refine And.intro (rfl) ?_
            refine Exists.intro _ (And.intro (fun h => ⟨⟨⟨h, trivial⟩, trivial⟩, plain_f hc⟩) ?_)
            refine And.intro (by exact fun h => h) ?_
            refine acode_ret ?_
            exact ib_eq (by simp)
end Q
end Ab
end Go.Proofs.YtdedkoiodehmnaaDoor
namespace Go.Proofs.YtdedkoiodehmnaaDoor
open Go.RowKit
namespace Ab
set_option maxRecDepth 100000
namespace Q
theorem parts_count (l : List UInt8) : (partsL l).length = l.count 10 + 1 := by
  suffices h : ∀ n (l : List UInt8), l.length = n → (partsL l).length = l.count 10 + 1 from h _ l rfl
  intro n
  induction n with
  | zero => intro l h; rw [List.eq_nil_of_length_eq_zero h]; rfl
  | succ n ih =>
    intro l h
    have hne : l ≠ [] := fun e => by rw [e] at h; cases h
    obtain ⟨r, c, rfl⟩ : ∃ r c, l = r ++ [c] := ⟨l.dropLast, l.getLast hne, (List.dropLast_concat_getLast hne).symm⟩
    have hr : r.length = n := by simpa using h
    rw [List.count_append]
    by_cases hc : c = 10
    · subst hc
      rw [parts_ten, List.length_append, ih r hr]; simp
    · rw [parts_one r hc, List.length_set, ih r hr]
      simp [hc]
theorem countB_ten (s : ByteArray) : Lib.countB s ⟨#[10]⟩ = s.data.toList.count 10 := by
  have h1 := Lib.splitB_all ⟨#[10]⟩ (by decide) 0 _ s rfl
  have h2 := congrArg List.length (split_ls ⟨#[10]⟩ s)
  rw [List.length_map, h1] at h2
  have h3 := parts_count s.data.toList
  unfold partsL at h3
  have h4 : (Lib.split s.data.toList [10]).length = Lib.countB s ⟨#[10]⟩ + 1 := h2.symm
  omega
/-- How many lines a text has. -/
def countN (l : List UInt8) : Int := l.count 10 + (if l ≠ [] ∧ Lib.hasSuffix l [10] = false then 1 else 0)
theorem lcount_c (s : ByteArray) (hs : s.size ≤ 1000000000) : ACall Tryd.prog 26 [is s] (ii .i64 (countN s.data.toList)) := by
  have hz := size_list s
  have hcb := countB_ten s
  have hcl := List.count_le_length (a := (10 : UInt8)) (l := s.data.toList)
  have hne : s = ⟨#[]⟩ ↔ s.data.toList = [] := by
    rw [emp]; exact ⟨List.eq_nil_of_length_eq_zero, fun h => by rw [h]; rfl⟩
  refine acall_of (rs := [2]) Tryd.func26 rfl rfl rfl teOk rfl ?_
  refine acode_seq ?_
  refine acode_region ?_
  refine acode_seq ?_
  refine acode_region ?_
  refine Or.inl ?_
  refine And.intro (rfl) ?_
  refine Exists.intro _ (And.intro (count_c s ⟨#[10]⟩ (by omega) (by decide)) ?_)
  refine acode_seq ?_
  refine acode_seq ?_
  refine acode_region ?_
  refine And.intro (fun h => trivial) ?_
  refine And.intro (rfl) ?_
  refine Exists.intro _ (And.intro (fun h => ⟨⟨⟨h, trivial⟩, trivial⟩, hasSuffix_c s ⟨#[10]⟩ (by omega)⟩) ?_)
  refine And.intro (fun h => ⟨⟨h, trivial⟩, trivial⟩) ?_
  refine And.intro (by exact fun h => h) ?_
  refine acode_cond rfl (fun h12 => ?_) (fun h12 => ?_)
  · try simp only [decide_eq_false_iff_not, Bool.and_eq_true, Bool.not_eq_true'] at h12
    try simp only [Int.toNat_natCast, dflt_sl, dflt_st, dflt_str, dflt_int, dflt_bool] at h12
    refine acode_region ?_
    refine And.intro (by first | omega | assumption | decide | (simp only [Int.toNat_natCast, dflt_sl, dflt_st, dflt_str, dflt_int, dflt_bool]; omega) | (simp <;> omega)) ?_
    refine acode_seq ?_
    refine acode_region ?_
    refine acode_ret ?_
    refine ii_eq ?_
    unfold countN
    rw [if_pos ⟨fun e => h12.1 (hne.2 e), h12.2⟩, hcb]
  · try simp only [decide_eq_true_eq, Bool.not_eq_false', Bool.and_eq_false_iff] at h12
    try simp only [Int.toNat_natCast, dflt_sl, dflt_st, dflt_str, dflt_int, dflt_bool] at h12
    refine acode_skip ?_
    refine acode_seq ?_
    refine acode_region ?_
    refine acode_ret ?_
    refine ii_eq ?_
    unfold countN
    rw [if_neg (fun e => by rcases h12 with h | h; exact e.1 (hne.1 h); rw [show Lib.hasSuffix s.data.toList [10] = true from h] at e; cases e.2), hcb]
    omega
theorem count_endL : ∀ ps : List (List UInt8), (∀ s ∈ ps, 10 ∉ s) → (endL ps).count 10 = ps.length
  | [], _ => rfl
  | p :: ps, h => by
    show ((p ++ [10]) ++ endL ps).count 10 = _
    rw [List.count_append, List.count_append, count_endL ps fun s hs => h s (by simp [hs]), List.count_eq_zero_of_not_mem (h p (by simp))]
    simp; omega
theorem endL_suffix (x : List UInt8) : ∀ ps : List (List UInt8), ps ≠ [] → ∃ y, x ++ endL ps = y ++ [10]
  | [p], _ => ⟨x ++ p, by simp [endL]⟩
  | p :: q :: r, _ => by
    obtain ⟨y, hy⟩ := endL_suffix (x ++ (p ++ [10])) (q :: r) (by simp)
    refine ⟨y, ?_⟩
    rw [← hy, List.append_assoc]; rfl
theorem linesL_len (k v : List UInt8) : (linesL k v).length = v.count 10 + 1 := by
  rw [← parts_count]
  have h := List.length_pos_iff.2 (parts_ne v)
  unfold linesL
  rw [List.length_cons, List.length_map, List.length_drop]
  omega
theorem countN_two {f : Fld} (h : checkF f = 0) : countN (foldL [f, f]) = 2 * ((lineB f.1 f.2).length : Int) := by
  obtain ⟨hk, _, _⟩ := check_ok h
  have hno := lines_no hk (v := f.2.data.toList)
  have hne : linesL f.1.data.toList f.2.data.toList ≠ [] := by unfold linesL; simp
  have e : foldL [f, f] = textL f ++ textL f := by simp [foldL]
  obtain ⟨y, hy⟩ := endL_suffix (textL f) _ hne
  have hs : Lib.hasSuffix (foldL [f, f]) [10] = true := by
    rw [e]
    show Lib.hasSuffix (textL f ++ endL (linesL f.1.data.toList f.2.data.toList)) [10] = true
    rw [hy]
    unfold Lib.hasSuffix
    exact List.isSuffixOf_iff_suffix.2 ⟨y, rfl⟩
  unfold countN
  rw [if_neg (by rw [hs]; simp), e, List.count_append, tlines]
  have := count_endL _ hno
  unfold textL
  omega
theorem fold_two {f : Fld} (h : checkF f = 0) : ACall Tryd.prog 18 [.one (.sl rFld [f, f])] (.tup [(false, [.lit (.string (bytes (foldL [f, f])))]), (false, [.lit .nilIface])]) := by
  obtain ⟨_, h2, h3⟩ := check_ok h
  have hb : badF [f, f] = 0 := badF_ok (fun g hg => by simp at hg; rw [hg]; exact h)
  have := fold_c [f, f] ⟨by simp, fun g hg => by simp at hg; rw [hg]; exact ⟨by omega, by omega⟩⟩
  unfold foldA at this
  rw [if_pos hb] at this
  exact this
theorem foldL_len {f : Fld} (h : checkF f = 0) : (foldL [f, f]).length ≤ 10000000 := by
  have h1 := (text_len h).1
  simp [foldL]
  omega
theorem line_more {k v : List UInt8} {i : Nat} (h : i < (linesL k v).length) (h0 : i ≠ 0) : kindL ((linesL k v).getD i []) = 3 := by
  unfold linesL at h ⊢
  cases i with
  | zero => exact absurd rfl h0
  | succ j =>
    rw [List.length_cons] at h
    have hj : j < (((partsL v).drop 1).map fun s => 32 :: stuffL s).length := by omega
    rw [List.getD_cons_succ]
    obtain ⟨q, hq, e⟩ := List.mem_map.1 (getD_mem hj ([] : List UInt8))
    rw [← e]
    exact more_kind (parts_no v _ (List.mem_of_mem_drop hq))
theorem cutL_first {k p : List UInt8} (hk : keyOk k = true) (hp : 10 ∉ p) : (cutL (firstL k p)).1 = k ∧ (cutL (firstL k p)).2.2 = true := by
  obtain ⟨h1, h2⟩ := first_kind hk hp
  unfold cutL
  rw [if_pos h1, h2]
  exact ⟨rfl, rfl⟩
theorem FoldKinds_c (f : Fld) : ACall Tryd.prog 4 [.agg (toL rFld f)] (ib true) := by
  have hzv := size_list f.2
  refine acall_of (rs := [2]) Tryd.func4 rfl rfl rfl teOk rfl ?_
  refine acode_seq ?_
  refine acode_region ?_
  refine acode_seq ?_
  refine acode_seq ?_
  refine acode_region ?_
  refine Or.inl ?_
  refine And.intro (rfl) ?_
  refine Exists.intro _ (And.intro (falive_c) ?_)
  refine acode_cond rfl (fun h14 => ?_) (fun h14 => ?_)
  · try simp only [Bool.not_eq_true'] at h14
    try simp only [Int.toNat_natCast, dflt_sl, dflt_st, dflt_str, dflt_int, dflt_bool] at h14
    cases h14
  · try simp only [Bool.not_eq_false'] at h14
    try simp only [Int.toNat_natCast, dflt_sl, dflt_st, dflt_str, dflt_int, dflt_bool] at h14
    refine acode_skip ?_
    refine acode_seq ?_
    refine acode_seq ?_
    refine acode_region ?_
    refine And.intro (fun h => trivial) ?_
    refine And.intro (fun h => ⟨⟨h, trivial⟩, trivial⟩) ?_
    refine And.intro (fun h => ⟨⟨h, trivial⟩, trivial⟩) ?_
    refine And.intro (fun h => ⟨⟨h, trivial⟩, trivial⟩) ?_
    refine And.intro (by first | (intro h; rw [h]; rfl) | (intro h; cases h)) ?_
    refine acode_cond rfl (fun h24 => ?_) (fun h24 => ?_)
    · try simp only [decide_eq_true_eq, Bool.or_eq_true] at h24
      try simp only [Int.toNat_natCast, dflt_sl, dflt_st, dflt_str, dflt_int, dflt_bool] at h24
      refine acode_seq ?_
      refine acode_region ?_
      refine acode_ret ?_
      rfl
    · try simp only [decide_eq_false_iff_not, Bool.or_eq_false_iff, Int.not_lt] at h24
      try simp only [Int.toNat_natCast, dflt_sl, dflt_st, dflt_str, dflt_int, dflt_bool] at h24
      obtain ⟨hk, hv⟩ := h24
      refine acode_skip ?_
      refine acode_seq ?_
      rcases check_cases f with hc|hc|hc
      · refine acode_region ?_
        refine Or.inl ?_
        refine And.intro (rfl) ?_
        refine Exists.intro _ (And.intro (lines_v hc (by decide) (by omega) (by omega)) ?_)
        refine acode_seq ?_
        refine acode_seq ?_
        refine acode_region ?_
        refine acode_cond rfl (fun h31 => ?_) (fun h31 => ?_)
        · skip
          refine acode_seq ?_
          refine acode_region ?_
          refine acode_ret ?_
          rfl
        · try simp only [decide_eq_true_eq, decide_eq_false_iff_not, Bool.and_eq_true, Bool.not_eq_true', Bool.not_eq_false', Bool.or_eq_false_iff, Bool.or_eq_true, Bool.and_eq_false_iff, Int.not_lt, Int.not_le] at h31
          try simp only [Int.toNat_natCast, dflt_sl, dflt_st, dflt_str, dflt_int, dflt_bool] at h31
          exact absurd h31 (by decide)
      · refine acode_region ?_
        refine Or.inl ?_
        refine And.intro (rfl) ?_
        refine Exists.intro _ (And.intro (lines_v hc (by decide) (by omega) (by omega)) ?_)
        refine acode_seq ?_
        refine acode_seq ?_
        refine acode_region ?_
        refine acode_cond rfl (fun h31 => ?_) (fun h31 => ?_)
        · skip
          refine acode_seq ?_
          refine acode_region ?_
          refine acode_ret ?_
          rfl
        · try simp only [decide_eq_true_eq, decide_eq_false_iff_not, Bool.and_eq_true, Bool.not_eq_true', Bool.not_eq_false', Bool.or_eq_false_iff, Bool.or_eq_true, Bool.and_eq_false_iff, Int.not_lt, Int.not_le] at h31
          try simp only [Int.toNat_natCast, dflt_sl, dflt_st, dflt_str, dflt_int, dflt_bool] at h31
          exact absurd h31 (by decide)
      · refine acode_region ?_
        refine Or.inl ?_
        refine And.intro (rfl) ?_
        refine Exists.intro _ (And.intro (lines_z hc (by omega) (by omega)) ?_)
        refine acode_seq ?_
        refine acode_seq ?_
        refine acode_region ?_
        refine acode_cond rfl (fun h31 => ?_) (fun h31 => ?_)
        · try simp only [Bool.not_eq_true'] at h31
          try simp only [Int.toNat_natCast, dflt_sl, dflt_st, dflt_str, dflt_int, dflt_bool] at h31
          exact absurd h31 (by decide)
        · try simp only [Bool.not_eq_false'] at h31
          try simp only [Int.toNat_natCast, dflt_sl, dflt_st, dflt_str, dflt_int, dflt_bool] at h31
          obtain ⟨hko, hv1, hk1⟩ := check_ok hc
          have hln : (lineB f.1 f.2).length = f.2.data.toList.count 10 + 1 := by rw [tlines, linesL_len]
          have hcl := List.count_le_length (a := (10 : UInt8)) (l := f.2.data.toList)
          refine acode_skip ?_
          refine acode_seq ?_
          refine acode_region ?_
          refine acode_seq ?_
          refine acode_seq ?_
          refine acode_region ?_
          refine acode_block ?_
          refine acode_loopP (fun (i : Nat) => i ≤ f.2.size) (fun (i : Nat) => [(1, .one (.own 0 0)), (3, .one (.sl .str (lineB f.1 f.2))), (5, ii .i64 ((f.2.data.toList.take i).count 10)), (34, ii .i64 f.2.size), (35, ii .i64 i)]) (fun (i : Nat) => [(0, .box 32 (toL rFld f))]) 1 (fun (i : Nat) => f.2.size - i) 0 (Nat.zero_le _) (le_of ⟨rfl, rfl, rfl, rfl, rfl⟩ rfl rfl) ?_
          intro i hI0
          have hi := hI0
          refine acode_seq ?_
          refine acode_region ?_
          refine acode_seq ?_
          refine acode_cond rfl (fun h36 => ?_) (fun h36 => ?_)
          · try simp only [decide_eq_true_eq] at h36
            try simp only [Int.toNat_natCast, dflt_sl, dflt_st, dflt_str, dflt_int, dflt_bool] at h36
            have hlt : i < f.2.data.toList.length := by omega
            have hti := List.count_le_length (a := (10 : UInt8)) (l := f.2.data.toList.take i)
            rw [List.length_take] at hti
            refine acode_skip ?_
            refine acode_seq ?_
            refine acode_block ?_
            refine acode_seq ?_
            refine acode_region ?_
            refine acode_seq ?_
            refine acode_region ?_
            refine And.intro (by first | omega | assumption | decide | (simp only [Int.toNat_natCast, dflt_sl, dflt_st, dflt_str, dflt_int, dflt_bool]; omega) | (simp <;> omega)) ?_
            refine acode_cond rfl (fun h42 => ?_) (fun h42 => ?_)
            · try simp only [decide_eq_true_eq] at h42
              try simp only [Int.toNat_natCast] at h42
              refine acode_region ?_
              refine And.intro (by first | omega | assumption | decide | (simp only [Int.toNat_natCast, dflt_sl, dflt_st, dflt_str, dflt_int, dflt_bool]; omega) | (simp <;> omega)) ?_
              refine acode_region ?_
              refine And.intro (by first | omega | assumption | decide | (simp only [Int.toNat_natCast, dflt_sl, dflt_st, dflt_str, dflt_int, dflt_bool]; omega) | (simp <;> omega)) ?_
              exact ⟨i + 1, by omega, by first | omega | (simp <;> omega), le_of ⟨rfl, rfl, (ii_eq (by rw [← take_snoc 0 hlt, List.count_append, show f.2.data.toList.getD i 0 = 10 from u8_eq h42]; simp)), rfl, (ii_eq (by omega))⟩ rfl rfl⟩
            · try simp only [decide_eq_false_iff_not] at h42
              try simp only [Int.toNat_natCast] at h42
              refine acode_skip ?_
              refine acode_region ?_
              refine And.intro (by first | omega | assumption | decide | (simp only [Int.toNat_natCast, dflt_sl, dflt_st, dflt_str, dflt_int, dflt_bool]; omega) | (simp <;> omega)) ?_
              exact ⟨i + 1, by omega, by first | omega | (simp <;> omega), le_of ⟨rfl, rfl, (ii_eq (by rw [← take_snoc 0 hlt, List.count_append, List.count_eq_zero_of_not_mem (a := (10 : UInt8)) (l := [f.2.data.toList.getD i 0]) (fun e => h42 (by rw [← List.mem_singleton.1 e]; rfl))]; rfl)), rfl, (ii_eq (by omega))⟩ rfl rfl⟩
          · try simp only [decide_eq_false_iff_not, Int.not_lt] at h36
            try simp only [Int.toNat_natCast, dflt_sl, dflt_st, dflt_str, dflt_int, dflt_bool] at h36
            rw [List.take_of_length_le (by omega)]
            refine acode_exit ?_
            refine acode_seq ?_
            refine acode_seq ?_
            refine acode_region ?_
            intro l15_1
            try simp only [Int.toNat_natCast, dflt_sl, dflt_st, dflt_str, dflt_int, dflt_bool] at l15_1
            refine And.intro (by first | omega | assumption | decide | (simp only [Int.toNat_natCast, dflt_sl, dflt_st, dflt_str, dflt_int, dflt_bool]; omega) | (simp <;> omega)) ?_
            refine acode_cond rfl (fun h50 => ?_) (fun h50 => ?_)
            · try simp only [decide_eq_false_iff_not, Bool.not_eq_true'] at h50
              try simp only [Int.toNat_natCast, dflt_sl, dflt_st, dflt_str, dflt_int, dflt_bool] at h50
              exfalso
              exact h50 (by rw [hln]; omega)
            · try simp only [decide_eq_true_eq, Bool.not_eq_false'] at h50
              try simp only [Int.toNat_natCast, dflt_sl, dflt_st, dflt_str, dflt_int, dflt_bool] at h50
              refine acode_skip ?_
              refine acode_seq ?_
              refine acode_seq ?_
              refine acode_region ?_
              intro l17_1
              try simp only [Int.toNat_natCast, dflt_sl, dflt_st, dflt_str, dflt_int, dflt_bool] at l17_1
              refine acode_block ?_
              refine acode_loopP (fun (i : Nat) => i ≤ (lineB f.1 f.2).length) (fun (i : Nat) => [(1, .one (.own 0 0)), (3, .one (.sl .str (lineB f.1 f.2))), (51, .one (.sl .str (lineB f.1 f.2))), (52, ii .i64 (lineB f.1 f.2).length), (53, ii .i64 i)]) (fun (i : Nat) => [(0, .box 32 (toL rFld f))]) 1 (fun (i : Nat) => (lineB f.1 f.2).length - i) 0 (Nat.zero_le _) (le_of ⟨rfl, rfl, rfl, rfl, rfl⟩ rfl rfl) ?_
              intro i hI2
              have hi := hI2
              refine acode_seq ?_
              refine acode_region ?_
              refine acode_seq ?_
              refine acode_cond rfl (fun h54 => ?_) (fun h54 => ?_)
              · try simp only [decide_eq_true_eq] at h54
                try simp only [Int.toNat_natCast, dflt_sl, dflt_st, dflt_str, dflt_int, dflt_bool] at h54
                have hlt : i < (lineB f.1 f.2).length := by omega
                have hg := lineB_get hlt
                have hlt2 := hlt
                rw [tlines] at hlt2
                have hgs : ((lineB f.1 f.2).getD i ByteArray.empty).size ≤ 2000 := by rw [hg, bytes_size]; rw [size_list] at hv1 hk1; exact (line_len hk1 hv1).2 _ (getD_mem hlt2 _)
                refine acode_skip ?_
                refine acode_seq ?_
                refine acode_block ?_
                refine acode_seq ?_
                refine acode_region ?_
                refine And.intro (by first | omega | assumption | decide | (simp only [Int.toNat_natCast, dflt_sl, dflt_st, dflt_str, dflt_int, dflt_bool]; omega) | (simp <;> omega)) ?_
                refine acode_seq ?_
                refine acode_region ?_
                refine acode_cond rfl (fun h59 => ?_) (fun h59 => ?_)
                · try simp only [decide_eq_true_eq] at h59
                  try simp only [Int.toNat_natCast, dflt_sl, dflt_st, dflt_str, dflt_int, dflt_bool] at h59
                  have hi0 : i = 0 := by omega
                  subst hi0
                  have h00 : (lineB f.1 f.2).getD 0 ByteArray.empty = bytes (firstL f.1.data.toList ((partsL f.2.data.toList).headD [])) := hg
                  have hp0 : 10 ∉ (partsL f.2.data.toList).headD [] := by cases e : partsL f.2.data.toList with | nil => exact absurd e (parts_ne _) | cons p ps => exact parts_no f.2.data.toList p (by rw [e]; simp)
                  obtain ⟨hc1, hc2⟩ := cutL_first (p := (partsL f.2.data.toList).headD []) hko hp0
                  refine acode_seq ?_
                  refine acode_region ?_
                  refine Or.inl ?_
                  refine And.intro (rfl) ?_
                  refine Exists.intro _ (And.intro ((lcut_v ((lineB f.1 f.2).getD 0 ByteArray.empty) (cutL (firstL f.1.data.toList ((partsL f.2.data.toList).headD []))) (by rw [h00, bytes_list]) (by omega))) ?_)
                  refine acode_seq ?_
                  refine acode_region ?_
                  refine And.intro (fun h => trivial) ?_
                  refine And.intro (fun h => trivial) ?_
                  refine And.intro (fun h => ⟨⟨h, trivial⟩, trivial⟩) ?_
                  refine And.intro (fun h => ⟨⟨h, trivial⟩, ⟨h, trivial⟩, trivial⟩) ?_
                  refine And.intro (by first | (intro h; rw [h]; rfl) | (intro h; cases h)) ?_
                  refine acode_cond rfl (fun h73 => ?_) (fun h73 => ?_)
                  · try simp only [decide_eq_false_iff_not, Bool.not_eq_true', Bool.or_eq_true] at h73
                    try simp only [Int.toNat_natCast, dflt_sl, dflt_st, dflt_str, dflt_int, dflt_bool] at h73
                    exfalso
                    rcases h73 with h | h
                    rw [hc2] at h
                    cases h
                    exact h (by rw [hc1]; exact bytes_ls f.1)
                  · try simp only [decide_eq_true_eq, Bool.not_eq_false', Bool.or_eq_false_iff] at h73
                    try simp only [Int.toNat_natCast, dflt_sl, dflt_st, dflt_str, dflt_int, dflt_bool] at h73
                    refine acode_skip ?_
                    refine acode_region ?_
                    refine And.intro (by first | omega | assumption | decide | (simp only [Int.toNat_natCast, dflt_sl, dflt_st, dflt_str, dflt_int, dflt_bool]; omega) | (simp <;> omega)) ?_
                    exact ⟨1, by omega, by first | omega | (simp <;> omega), le_of ⟨rfl, rfl, rfl, rfl, (ii_eq (by omega))⟩ rfl rfl⟩
                · try simp only [decide_eq_false_iff_not] at h59
                  try simp only [Int.toNat_natCast, dflt_sl, dflt_st, dflt_str, dflt_int, dflt_bool] at h59
                  refine acode_seq ?_
                  refine acode_region ?_
                  refine Or.inl ?_
                  refine And.intro (rfl) ?_
                  refine Exists.intro _ (And.intro ((kind_v ((lineB f.1 f.2).getD i ByteArray.empty) _ 3 rfl (by rw [hg, bytes_list]; exact line_more hlt2 (by omega)) (by rw [← size_list]; omega))) ?_)
                  refine acode_cond rfl (fun h76 => ?_) (fun h76 => ?_)
                  · try simp only [decide_eq_false_iff_not, Bool.not_eq_true'] at h76
                    try simp only [Int.toNat_natCast, dflt_sl, dflt_st, dflt_str, dflt_int, dflt_bool] at h76
                    exact absurd h76 (by decide)
                  · try simp only [decide_eq_true_eq, Bool.not_eq_false'] at h76
                    try simp only [Int.toNat_natCast, dflt_sl, dflt_st, dflt_str, dflt_int, dflt_bool] at h76
                    refine acode_skip ?_
                    refine acode_region ?_
                    refine And.intro (by first | omega | assumption | decide | (simp only [Int.toNat_natCast, dflt_sl, dflt_st, dflt_str, dflt_int, dflt_bool]; omega) | (simp <;> omega)) ?_
                    exact ⟨i + 1, by omega, by first | omega | (simp <;> omega), le_of ⟨rfl, rfl, rfl, rfl, (ii_eq (by omega))⟩ rfl rfl⟩
              · try simp only [decide_eq_false_iff_not, Int.not_lt] at h54
                try simp only [Int.toNat_natCast, dflt_sl, dflt_st, dflt_str, dflt_int, dflt_bool] at h54
                refine acode_exit ?_
                refine acode_seq ?_
                refine acode_region ?_
                refine Or.inl ?_
                refine And.intro (rfl) ?_
                refine Exists.intro _ (And.intro (fold_two hc) ?_)
                refine acode_seq ?_
                refine acode_region ?_
                refine And.intro (fun h => trivial) ?_
                refine And.intro (rfl) ?_
                refine Exists.intro _ (And.intro (fun h => ⟨⟨⟨h, trivial⟩, trivial⟩, lcount_c (bytes (foldL [f, f])) (by rw [bytes_size]; have := foldL_len hc; omega)⟩) ?_)
                refine And.intro (fun h => trivial) ?_
                refine And.intro (fun h => ⟨⟨h, trivial⟩, trivial⟩) ?_
                refine And.intro (fun h => ⟨⟨⟨h, trivial⟩, trivial⟩, by first | omega | decide | (simp only [Int.toNat_natCast, dflt_sl, dflt_st, dflt_str, dflt_int, dflt_bool]; omega) | (have h9 := of_decide_eq_true h; omega) | (simp [gq] at h; omega)⟩) ?_
                refine And.intro (fun h => ⟨⟨h, trivial⟩, ⟨h, trivial⟩, trivial⟩) ?_
                refine And.intro (by exact fun h => h) ?_
                refine acode_ret ?_
                exact ib_eq (by rw [bytes_list, countN_two hc]; simp)
end Q
end Ab
end Go.Proofs.YtdedkoiodehmnaaDoor
namespace Go.Proofs.YtdedkoiodehmnaaDoor
open Go.RowKit
namespace Ab
set_option maxRecDepth 100000
theorem o_str : Opens Tryd.prog 9 .str := opens_str Tryd.underlying9 (by kernel_rfl)
theorem o_int : Opens Tryd.prog 3 (.int .i64) := opens_int Tryd.underlying3 (by kernel_rfl)
theorem o_bool : Opens Tryd.prog 4 .bool := opens_bool Tryd.underlying4 (by kernel_rfl)
theorem o_field : Opens Tryd.prog 32 (.st .str .str) := opens_st Tryd.underlying32 (by kernel_rfl) (.cons rfl o_str (.one rfl o_str))
theorem o_fields : Opens Tryd.prog 22 (.sl (.st .str .str)) := opens_sl (by decide) Tryd.underlying22 (by kernel_rfl) o_field
theorem open_fields {H : Type} {enc : TypeId × Value → H} {W : World} {base : Nat} {v : Value} {d : DataW H} {p : List MemPlace} (hv : Value.okWide Tryd.prog W .any base 22 v) (h : DataW.Trod enc Tryd.prog W 0 (fun _ => true) true 22 v d p) :
    ∃ xs, (C.sl (.st .str .str) xs).rep AllOk noNames W v := open_sl Tryd.underlying22 o_fields hv h
/-- The library's variable holds some number. -/
theorem globAt {W : World} (h : W.ShapedOpen Tryd.prog) : GlobAt AllOk W := by
  have hc : GlobCell W := cell_of_shapedOpen_int (g := 0) (t := 3) (zero := #[.int .i64 0]) h (of_decide_eq_true (by kernel_rfl)) (by kernel_rfl) rfl (by kernel_rfl) (by kernel_rfl) Tryd.underlying3
  refine ⟨trivial, ?_, hc⟩
  obtain ⟨m, hm⟩ := hc
  rcases Nat.lt_or_ge 0 W.heap.size with h1 | h1
  · exact h1
  · exfalso
    simp only [World.cell?, Array.getElem?_eq_none h1] at hm
    cases hm
end Ab
end Go.Proofs.YtdedkoiodehmnaaDoor
namespace Go.Proofs.YtdedkoiodehmnaaDoor
open Go.RowKit
namespace Ab
set_option maxRecDepth 100000
theorem open_agg {P : Program} {α : Type} {R : Rd α} {t : TypeId} {fs : Array Field} (hu : P.underlying t = some (.struct fs)) (ho : Opens P t R) {H : Type} {enc : TypeId × Value → H} {W : World} {base : Nat} {v : Value} {d : DataW H} {p : List MemPlace} (hv : Value.okWide P W .any base t v)
    (h : DataW.Trod enc P W 0 (fun _ => true) true t v d p) : ∃ x : α, (A.agg (toL R x)).rep AllOk noNames W v := by
  obtain ⟨cs, rfl, _⟩ := Go.WideShapes.okWide_struct hu hv
  obtain ⟨fuel, hf⟩ := h
  obtain ⟨x, hx⟩ := ho.2 enc W _ _ _ _ _ _ hf
  exact ⟨x, cs.toList, by simp, toL_rep R hx⟩
theorem open_field {H : Type} {enc : TypeId × Value → H} {W : World} {base : Nat} {v : Value} {d : DataW H} {p : List MemPlace} (hv : Value.okWide Tryd.prog W .any base 32 v) (h : DataW.Trod enc Tryd.prog W 0 (fun _ => true) true 32 v d p) :
    ∃ x, (A.agg (toL (.st .str .str) x)).rep AllOk noNames W v := open_agg Tryd.underlying32 o_field hv h
theorem o_strs : Opens Tryd.prog 36 (.sl .str) := opens_sl (by decide) Tryd.underlying36 (by kernel_rfl) o_str
theorem open_strs {H : Type} {enc : TypeId × Value → H} {W : World} {base : Nat} {v : Value} {d : DataW H} {p : List MemPlace} (hv : Value.okWide Tryd.prog W .any base 36 v) (h : DataW.Trod enc Tryd.prog W 0 (fun _ => true) true 36 v d p) :
    ∃ xs, (C.sl .str xs).rep AllOk noNames W v := open_sl Tryd.underlying36 o_strs hv h
theorem o_strss : Opens Tryd.prog 52 (.sl (.sl .str)) := opens_sl (by decide) Tryd.underlying52 (by kernel_rfl) o_strs
theorem open_strss {H : Type} {enc : TypeId × Value → H} {W : World} {base : Nat} {v : Value} {d : DataW H} {p : List MemPlace} (hv : Value.okWide Tryd.prog W .any base 52 v) (h : DataW.Trod enc Tryd.prog W 0 (fun _ => true) true 52 v d p) :
    ∃ xs, (C.sl (.sl .str) xs).rep AllOk noNames W v := open_sl Tryd.underlying52 o_strss hv h
theorem o_rows : Opens Tryd.prog 61 (.sl (.sl (.st .str .str))) := opens_sl (by decide) Tryd.underlying61 (by kernel_rfl) o_fields
theorem open_rows {H : Type} {enc : TypeId × Value → H} {W : World} {base : Nat} {v : Value} {d : DataW H} {p : List MemPlace} (hv : Value.okWide Tryd.prog W .any base 61 v) (h : DataW.Trod enc Tryd.prog W 0 (fun _ => true) true 61 v d p) :
    ∃ xs, (C.sl (.sl (.st .str .str)) xs).rep AllOk noNames W v := open_sl Tryd.underlying61 o_rows hv h
theorem o_item : Opens Tryd.prog 75 (.st (.int .i64) (.st .str (.sl (.st .str .str)))) := opens_st Tryd.underlying75 (by kernel_rfl) (.cons rfl o_int (.cons rfl o_str (.one rfl o_fields)))
theorem o_items : Opens Tryd.prog 71 (.sl (.st (.int .i64) (.st .str (.sl (.st .str .str))))) := opens_sl (by decide) Tryd.underlying71 (by kernel_rfl) o_item
theorem open_items {H : Type} {enc : TypeId × Value → H} {W : World} {base : Nat} {v : Value} {d : DataW H} {p : List MemPlace} (hv : Value.okWide Tryd.prog W .any base 71 v) (h : DataW.Trod enc Tryd.prog W 0 (fun _ => true) true 71 v d p) :
    ∃ xs, (C.sl (.st (.int .i64) (.st .str (.sl (.st .str .str)))) xs).rep AllOk noNames W v := open_sl Tryd.underlying71 o_items hv h
end Ab
end Go.Proofs.YtdedkoiodehmnaaDoor
