/-
  The texts of this proof, joined: abstract values, the library, the functions of the program and what they compute (part 4). No condition.
-/
import Derived.Shelf.Vars
import Derived.KernelRfl
import Derived.Test.YtdedkoiodehmnaaDoorK1
import Derived.Test.YtdedkoiodehmnaaDoorK2
import Derived.Test.YtdedkoiodehmnaaDoorK3
namespace Go.Proofs.YtdedkoiodehmnaaDoor
open Go.RowKit
namespace Ab
set_option maxRecDepth 100000
namespace Q
theorem join_snoc {ps : List (List UInt8)} (q sep : List UInt8) (h : ps ≠ []) : Lib.join (ps ++ [q]) sep = Lib.join ps sep ++ (sep ++ q) := by
  induction ps with
  | nil => exact absurd rfl h
  | cons p r ih =>
    cases r with
    | nil => rw [List.cons_append, List.nil_append, join_two, Lib.join_one, Lib.join_one]; simp
    | cons a b => rw [List.cons_append, List.cons_append, join_two, join_two, ← List.cons_append, ih (by simp)]; simp
theorem parts_of {ps : List (List UInt8)} (h : ps ≠ []) (hn : ∀ p ∈ ps, 10 ∉ p) : partsL (Lib.join ps [10]) = ps := split_join (by simp) ps h fun p hp => clean_one (hn p hp)
theorem parts_ne (l : List UInt8) : partsL l ≠ [] := split_ne l [10]
theorem parts_ten (l : List UInt8) : partsL (l ++ [10]) = partsL l ++ [[]] := by
  have : l ++ [10] = Lib.join (partsL l ++ [[]]) [10] := by rw [join_snoc _ _ (parts_ne l), parts_join]; simp
  rw [this]
  exact parts_of (by simp) fun p hp => by
    rcases List.mem_append.1 hp with h | h
    · exact parts_no l p h
    · rw [List.mem_singleton.1 h]; simp
theorem join_last (ps : List (List UInt8)) (q r : List UInt8) : Lib.join (ps ++ [q ++ r]) [10] = Lib.join (ps ++ [q]) [10] ++ r := by
  cases ps with
  | nil => simp [Lib.join_one]
  | cons a b => rw [join_snoc _ _ (by simp), join_snoc _ _ (by simp)]; simp
theorem parts_last (l : List UInt8) : ∃ ps q, partsL l = ps ++ [q] := by
  cases h : partsL l with
  | nil => exact absurd h (parts_ne l)
  | cons a b => exact ⟨(a :: b).dropLast, (a :: b).getLast (by simp), (List.dropLast_concat_getLast (by simp)).symm⟩
theorem parts_one (l : List UInt8) {c : UInt8} (hc : c ≠ 10) : partsL (l ++ [c]) = (partsL l).set ((partsL l).length - 1) ((partsL l).getD ((partsL l).length - 1) [] ++ [c]) := by
  obtain ⟨ps, q, e⟩ := parts_last l
  have hno := parts_no l
  have hj := parts_join l
  rw [e] at hj hno
  have e2 : (partsL l).set ((partsL l).length - 1) ((partsL l).getD ((partsL l).length - 1) [] ++ [c]) = ps ++ [q ++ [c]] := by rw [e]; simp
  rw [e2, ← hj, ← join_last]
  exact parts_of (by simp) fun p hp => by
    rcases List.mem_append.1 hp with h | h
    · exact hno p (by simp [h])
    · rw [List.mem_singleton.1 h]
      simp only [List.mem_append, List.mem_singleton, not_or]
      exact ⟨hno q (by simp), fun e => hc e.symm⟩
theorem parts_len (l : List UInt8) : (partsL l).length ≤ l.length + 1 := by
  have := split_len (bytes [10]) (bytes l) (by decide)
  have h2 := congrArg List.length (split_ls (bytes [10]) (bytes l))
  rw [List.length_map] at h2
  rw [h2] at this
  unfold ls at this
  rw [bytes_list, bytes_list, bytes_size] at this
  exact this
theorem part_size (l : List UInt8) {x : ByteArray} (h : x ∈ (partsL l).map bytes) : x.size ≤ l.length := by
  obtain ⟨p, hp, rfl⟩ := List.mem_map.1 h
  rw [bytes_size]; exact split_mem hp
theorem partB_one (l : List UInt8) {c : UInt8} (hc : c ≠ 10) (k : Nat) (hk : k = (partsL l).length - 1) : ((partsL l).map bytes).set k (((partsL l).map bytes).getD k Rd.str.dflt ++ bytes [c]) = (partsL (l ++ [c])).map bytes := by
  subst hk
  have hlt : (partsL l).length - 1 < (partsL l).length := by have := List.length_pos_iff.2 (parts_ne l); omega
  rw [parts_one l hc, List.map_set, bytes_app]
  congr 2
  rw [List.getD_eq_getElem?_getD, List.getElem?_map, List.getD_eq_getElem?_getD, List.getElem?_eq_getElem hlt]; rfl
def partB (s : ByteArray) : List ByteArray := (partsL s.data.toList).map bytes
theorem refParts_c (s : ByteArray) (hs : s.size ≤ 1000000) : ACall Tryd.prog 80 [is s] (.one (.sl .str (partB s))) := by
  have hz := size_list s
  refine acall_of (rs := [2]) Tryd.func80 rfl rfl rfl teOk rfl ?_
  refine acode_seq ?_
  refine acode_region ?_
  refine acode_seq ?_
  refine acode_region ?_
  refine acode_seq ?_
  refine acode_seq ?_
  refine acode_region ?_
  refine acode_block ?_
  refine acode_loopP (fun (i : Nat) => i ≤ s.size) (fun (i : Nat) => [(0, is s), (3, .one (.vec 0)), (4, ii .i64 i)]) (fun (i : Nat) => [(0, .vec 9 .str ((partsL (s.data.toList.take i)).map bytes))]) 1 (fun (i : Nat) => s.size - i) 0 (Nat.zero_le _) (le_of ⟨rfl, rfl, rfl⟩ (vec_eq rfl) rfl) ?_
  intro i hI0
  have hi := hI0
  refine acode_seq ?_
  refine acode_seq ?_
  refine acode_region ?_
  refine acode_cond rfl (fun h9 => ?_) (fun h9 => ?_)
  · try simp only [decide_eq_true_eq] at h9
    try simp only [Int.toNat_natCast, dflt_sl, dflt_st, dflt_str, dflt_int, dflt_bool] at h9
    have hlt : i < s.data.toList.length := by omega
    have hpl := parts_len (s.data.toList.take i)
    have hti : (s.data.toList.take i).length ≤ i := by rw [List.length_take]; omega
    refine acode_skip ?_
    refine acode_seq ?_
    refine acode_block ?_
    refine acode_seq ?_
    refine acode_region ?_
    refine And.intro (by first | omega | assumption | decide | (simp only [Int.toNat_natCast, dflt_sl, dflt_st, dflt_str, dflt_int, dflt_bool]; omega) | (simp <;> omega)) ?_
    refine acode_cond rfl (fun h15 => ?_) (fun h15 => ?_)
    · try simp only [decide_eq_true_eq] at h15
      try simp only [Int.toNat_natCast] at h15
      refine acode_region ?_
      refine And.intro (by show (_ + 1) * 16 ≤ 140737488355328; rw [List.length_map]; omega) ?_
      refine acode_region ?_
      refine And.intro (by first | omega | assumption | decide | (simp only [Int.toNat_natCast, dflt_sl, dflt_st, dflt_str, dflt_int, dflt_bool]; omega) | (simp <;> omega)) ?_
      exact ⟨i + 1, by omega, by first | omega | (simp <;> omega), le_of ⟨rfl, rfl, (ii_eq (by omega))⟩ (vec_eq (by rw [← take_snoc 0 hlt, show s.data.toList.getD i 0 = 10 from u8_eq h15, parts_ten, List.map_append]; rfl)) rfl⟩
    · try simp only [decide_eq_false_iff_not] at h15
      try simp only [Int.toNat_natCast] at h15
      have hp1 := List.length_pos_iff.2 (parts_ne (s.data.toList.take i))
      have hmp : ((partsL (s.data.toList.take i)).map bytes).length = (partsL (s.data.toList.take i)).length := List.length_map _
      have hx : s.extract (i : Int).toNat ((i : Int) + 1).toNat = bytes [s.data.toList.getD i 0] := by rw [Int.toNat_natCast, show ((i : Int) + 1).toNat = i + 1 by omega, extract_one hlt]
      have hx1 : (s.extract (i : Int).toNat ((i : Int) + 1).toNat).size = 1 := by rw [hx]; rfl
      have hes : (((partsL (s.data.toList.take i)).map bytes).getD ((((partsL (s.data.toList.take i)).map bytes).length : Int) - 1).toNat Rd.str.dflt).size ≤ 1000000 := Nat.le_trans (part_size _ (getD_mem (by omega) _)) (by omega)
      refine acode_ord rfl ?_
      refine aord_light 0 rfl rfl rfl (by kernel_rfl) ?_
      refine aord_light 1 rfl rfl rfl (by kernel_rfl) ?_
      refine aord_light 4 rfl rfl rfl (by kernel_rfl) ?_
      refine aord_light 5 rfl rfl rfl (by kernel_rfl) ?_
      refine aord_light 10 rfl rfl rfl (by kernel_rfl) ?_
      refine aord_light 11 rfl rfl rfl (by kernel_rfl) ?_
      refine aord_light 12 rfl rfl rfl (by kernel_rfl) ?_
      refine aord_light 13 rfl rfl rfl (by kernel_rfl) ?_
      refine And.intro (by first | omega | assumption | decide | (simp only [Int.toNat_natCast, dflt_sl, dflt_st, dflt_str, dflt_int, dflt_bool]; omega) | (simp <;> omega)) ?_
      refine aord_light 14 rfl rfl rfl (by kernel_rfl) ?_
      refine And.intro (by first | omega | assumption | decide | (simp only [Int.toNat_natCast, dflt_sl, dflt_st, dflt_str, dflt_int, dflt_bool]; omega) | (simp <;> omega)) ?_
      refine aord_all [2, 6] (by kernel_rfl) rfl ?_
      refine And.intro ?_ ?_
      · intro l7_2
        try simp only [Int.toNat_natCast, dflt_sl, dflt_st, dflt_str, dflt_int, dflt_bool] at l7_2
        refine aord_light 3 rfl rfl rfl (by kernel_rfl) ?_
        refine And.intro (by first | omega | assumption | decide | (simp only [Int.toNat_natCast, dflt_sl, dflt_st, dflt_str, dflt_int, dflt_bool]; omega) | (simp <;> omega)) ?_
        refine aord_all [6] (by kernel_rfl) rfl ?_
        intro l7_6
        try simp only [Int.toNat_natCast, dflt_sl, dflt_st, dflt_str, dflt_int, dflt_bool] at l7_6
        refine aord_light 7 rfl rfl rfl (by kernel_rfl) ?_
        refine And.intro (by first | omega | assumption | decide | (simp only [Int.toNat_natCast, dflt_sl, dflt_st, dflt_str, dflt_int, dflt_bool]; omega) | (simp <;> omega)) ?_
        refine aord_light 8 rfl rfl rfl (by kernel_rfl) ?_
        refine And.intro (by first | omega | assumption | decide | (simp only [Int.toNat_natCast, dflt_sl, dflt_st, dflt_str, dflt_int, dflt_bool]; omega) | (simp <;> omega)) ?_
        refine aord_all [9] (by kernel_rfl) rfl ?_
        refine And.intro (by omega) ?_
        refine aord_light 15 rfl rfl rfl (by kernel_rfl) ?_
        refine And.intro (by first | omega | (simp only [ByteArray.size_append]; omega) | (unfold maxLen; (try simp only [ByteArray.size_append]); omega)) ?_
        refine aord_light 16 rfl rfl rfl (by kernel_rfl) ?_
        refine And.intro (by first | omega | assumption | decide | (simp only [Int.toNat_natCast, dflt_sl, dflt_st, dflt_str, dflt_int, dflt_bool]; omega) | (simp <;> omega)) ?_
        refine aord_all [17] (by kernel_rfl) rfl ?_
        refine And.intro (by omega) ?_
        refine aord_done (by kernel_rfl) ?_
        refine acode_region ?_
        refine And.intro (by first | omega | assumption | decide | (simp only [Int.toNat_natCast, dflt_sl, dflt_st, dflt_str, dflt_int, dflt_bool]; omega) | (simp <;> omega)) ?_
        exact ⟨i + 1, by omega, by first | omega | (simp <;> omega), le_of ⟨rfl, rfl, (ii_eq (by omega))⟩ (vec_eq (by rw [hx, ← take_snoc 0 hlt]; exact partB_one _ (fun e => h15 (by rw [e]; rfl)) _ (by omega))) rfl⟩
      · intro l7_6
        try simp only [Int.toNat_natCast, dflt_sl, dflt_st, dflt_str, dflt_int, dflt_bool] at l7_6
        refine aord_light 7 rfl rfl rfl (by kernel_rfl) ?_
        refine And.intro (by first | omega | assumption | decide | (simp only [Int.toNat_natCast, dflt_sl, dflt_st, dflt_str, dflt_int, dflt_bool]; omega) | (simp <;> omega)) ?_
        refine aord_light 8 rfl rfl rfl (by kernel_rfl) ?_
        refine And.intro (by first | omega | assumption | decide | (simp only [Int.toNat_natCast, dflt_sl, dflt_st, dflt_str, dflt_int, dflt_bool]; omega) | (simp <;> omega)) ?_
        refine aord_all [2, 9] (by kernel_rfl) rfl ?_
        refine And.intro ?_ ?_
        · intro l7_2
          try simp only [Int.toNat_natCast, dflt_sl, dflt_st, dflt_str, dflt_int, dflt_bool] at l7_2
          refine aord_light 3 rfl rfl rfl (by kernel_rfl) ?_
          refine And.intro (by first | omega | assumption | decide | (simp only [Int.toNat_natCast, dflt_sl, dflt_st, dflt_str, dflt_int, dflt_bool]; omega) | (simp <;> omega)) ?_
          refine aord_all [9] (by kernel_rfl) rfl ?_
          refine And.intro (by omega) ?_
          refine aord_light 15 rfl rfl rfl (by kernel_rfl) ?_
          refine And.intro (by first | omega | (simp only [ByteArray.size_append]; omega) | (unfold maxLen; (try simp only [ByteArray.size_append]); omega)) ?_
          refine aord_light 16 rfl rfl rfl (by kernel_rfl) ?_
          refine And.intro (by first | omega | assumption | decide | (simp only [Int.toNat_natCast, dflt_sl, dflt_st, dflt_str, dflt_int, dflt_bool]; omega) | (simp <;> omega)) ?_
          refine aord_all [17] (by kernel_rfl) rfl ?_
          refine And.intro (by omega) ?_
          refine aord_done (by kernel_rfl) ?_
          refine acode_region ?_
          refine And.intro (by first | omega | assumption | decide | (simp only [Int.toNat_natCast, dflt_sl, dflt_st, dflt_str, dflt_int, dflt_bool]; omega) | (simp <;> omega)) ?_
          exact ⟨i + 1, by omega, by first | omega | (simp <;> omega), le_of ⟨rfl, rfl, (ii_eq (by omega))⟩ (vec_eq (by rw [hx, ← take_snoc 0 hlt]; exact partB_one _ (fun e => h15 (by rw [e]; rfl)) _ (by omega))) rfl⟩
        · refine And.intro (by omega) ?_
          refine aord_light 15 rfl rfl rfl (by kernel_rfl) ?_
          refine And.intro (by first | omega | (simp only [ByteArray.size_append]; omega) | (unfold maxLen; (try simp only [ByteArray.size_append]); omega)) ?_
          refine aord_all [2] (by kernel_rfl) rfl ?_
          intro l7_2
          try simp only [Int.toNat_natCast, dflt_sl, dflt_st, dflt_str, dflt_int, dflt_bool] at l7_2
          refine aord_light 3 rfl rfl rfl (by kernel_rfl) ?_
          refine And.intro (by first | omega | assumption | decide | (simp only [Int.toNat_natCast, dflt_sl, dflt_st, dflt_str, dflt_int, dflt_bool]; omega) | (simp <;> omega)) ?_
          refine aord_light 16 rfl rfl rfl (by kernel_rfl) ?_
          refine And.intro (by first | omega | assumption | decide | (simp only [Int.toNat_natCast, dflt_sl, dflt_st, dflt_str, dflt_int, dflt_bool]; omega) | (simp <;> omega)) ?_
          refine aord_all [17] (by kernel_rfl) rfl ?_
          refine And.intro (by omega) ?_
          refine aord_done (by kernel_rfl) ?_
          refine acode_region ?_
          refine And.intro (by first | omega | assumption | decide | (simp only [Int.toNat_natCast, dflt_sl, dflt_st, dflt_str, dflt_int, dflt_bool]; omega) | (simp <;> omega)) ?_
          exact ⟨i + 1, by omega, by first | omega | (simp <;> omega), le_of ⟨rfl, rfl, (ii_eq (by omega))⟩ (vec_eq (by rw [hx, ← take_snoc 0 hlt]; exact partB_one _ (fun e => h15 (by rw [e]; rfl)) _ (by omega))) rfl⟩
  · try simp only [decide_eq_false_iff_not, Int.not_lt] at h9
    try simp only [Int.toNat_natCast, dflt_sl, dflt_st, dflt_str, dflt_int, dflt_bool] at h9
    refine acode_exit ?_
    refine acode_seq ?_
    refine acode_region ?_
    refine acode_ret ?_
    exact sl_eq (by rw [List.take_of_length_le (by omega)]; rfl)
theorem refParts_v (s : ByteArray) (ws : List ByteArray) (h : partB s = ws) (hs : s.size ≤ 1000000) : ACall Tryd.prog 80 [is s] (.one (.sl .str ws)) := by
  subst h; exact refParts_c s hs
theorem kind_bare {p : List UInt8} (h : 10 ∉ p) : kindL p = 1 ↔ p.all blankC = true := by
  unfold kindL
  rw [if_neg h]
  split
  · rename_i h2; exact ⟨fun _ => h2, fun _ => rfl⟩
  · rename_i h2
    refine ⟨fun h3 => ?_, fun h3 => absurd h3 h2⟩
    split at h3
    · cases h3
    · split at h3
      · cases h3
      · split at h3 <;> cases h3
theorem stuff_yes {p : List UInt8} (h : 10 ∉ p) (hk : kindL p = 1 ∨ p.getD 0 0 = 46) : stuffL p = 46 :: p := by
  unfold stuffL
  rw [if_pos]
  rw [hasPrefix_one]
  rcases hk with hk | hk
  · rw [(kind_bare h).1 hk]; rfl
  · cases p with
    | nil => rfl
    | cons a b => simp only [List.getD_cons_zero] at hk; rw [hk]; simp
theorem stuff_not {p : List UInt8} (h : 10 ∉ p) (hk : kindL p ≠ 1) (hd : p.getD 0 0 ≠ 46) : stuffL p = p := by
  unfold stuffL
  rw [if_neg]
  rw [hasPrefix_one, decide_eq_false hd, Bool.and_false, Bool.or_false]
  exact fun e => hk ((kind_bare h).2 e)
theorem refKind_v (s : ByteArray) (n : Int) (h : kindL s.data.toList = n) (hs : s.size ≤ 1000000000) : ACall Tryd.prog 81 [is s] (ii .i64 n) := by
  subst h; exact refKind_c s hs
theorem kind_pos {s : ByteArray} (h : 10 ∉ s.data.toList) (hk : ¬ kindL s.data.toList = 1) : 0 < s.size := by
  refine Nat.pos_of_ne_zero fun e => hk ((kind_bare h).2 ?_)
  rw [size_list] at e
  rw [List.eq_nil_of_length_eq_zero e]; rfl
theorem ref_dot {s : ByteArray} (h : 10 ∉ s.data.toList) (hk : kindL s.data.toList = 1 ∨ s.data.toList.getD 0 0 = 46) : (⟨#[32, 46]⟩ : ByteArray) ++ s = bytes (32 :: stuffL s.data.toList) := by
  rw [stuff_yes h hk, show (32 :: 46 :: s.data.toList) = [32, 46] ++ s.data.toList from rfl, bytes_app, show bytes s.data.toList = s from bytes_ls s]; rfl
theorem ref_bare {s : ByteArray} (h : 10 ∉ s.data.toList) (hk : ¬ kindL s.data.toList = 1) (hd : ¬ s.data.toList.getD 0 0 = 46) : (⟨#[32]⟩ : ByteArray) ++ s = bytes (32 :: stuffL s.data.toList) := by
  rw [stuff_not h hk hd, show (32 :: s.data.toList) = [32] ++ s.data.toList from rfl, bytes_app, show bytes s.data.toList = s from bytes_ls s]; rfl
theorem refLines_c (f : Fld) (hk : f.1.size ≤ 1000000) (hv : f.2.size ≤ 1000000) : ACall Tryd.prog 30 [.agg (toL rFld f)] (.one (.sl .str (lineB f.1 f.2))) := by
  obtain ⟨ws, hws⟩ : ∃ ws, partB f.2 = ws := ⟨_, rfl⟩
  have hsz : ∀ x ∈ ws, x.size ≤ 1000000 := fun x hx => Nat.le_trans (part_size _ (hws ▸ hx)) (by rw [← size_list]; exact hv)
  have hno : ∀ x ∈ ws, 10 ∉ x.data.toList := fun x hx => by
    rw [← hws] at hx
    obtain ⟨p, hp, rfl⟩ := List.mem_map.1 hx
    rw [bytes_list]; exact parts_no _ p hp
  have hsp : ws.map ls = partsL f.2.data.toList := by
    rw [← hws]; unfold partB
    rw [List.map_map]
    conv => rhs; rw [← List.map_id (partsL f.2.data.toList)]
    exact List.map_congr_left fun s _ => bytes_list s
  have hpos : 0 < ws.length := by
    rw [← List.length_map (f := ls), hsp]
    exact List.length_pos_iff.2 (parts_ne _)
  have hlen : ws.length ≤ 1000001 := by
    rw [← List.length_map (f := ls), hsp]
    have := parts_len f.2.data.toList
    rw [← size_list] at this; omega
  have hdl : (ws.drop 1).length = ws.length - 1 := List.length_drop
  obtain ⟨p0, hp0⟩ : ∃ p, ws.getD 0 ByteArray.empty = p := ⟨_, rfl⟩
  have hp0s : p0.size ≤ 1000000 := by rw [← hp0]; exact hsz _ (getD_mem hpos _)
  have h58 : ByteArray.size ⟨#[58]⟩ = 1 := rfl
  have h32 : ByteArray.size ⟨#[32]⟩ = 1 := rfl
  have h3246 : ByteArray.size ⟨#[32, 46]⟩ = 2 := rfl
  have hp0r : (ws.getD (Int.toNat 0) Rd.str.dflt).size ≤ 1000000 := hsz _ (getD_mem hpos _)
  refine acall_of (rs := [2]) Tryd.func30 rfl rfl rfl teOk rfl ?_
  refine acode_seq ?_
  refine acode_region ?_
  refine acode_seq ?_
  refine acode_region ?_
  refine Or.inl ?_
  refine And.intro (rfl) ?_
  refine Exists.intro _ (And.intro (refParts_v f.2 ws hws hv) ?_)
  refine acode_seq ?_
  refine acode_region ?_
  refine And.intro (by (have hk0 : ByteArray.size { data := #[58] } = 1 := rfl; first | (unfold maxLen; omega) | (simp only [ByteArray.size_append]; omega) | (unfold maxLen; (try simp only [ByteArray.size_append]); omega))) ?_
  refine acode_cut (fun (u : Unit) => True) (fun (u : Unit) => [(3, .one (.sl .str ws)), (4, is (bytes (firstL f.1.data.toList p0.data.toList)))]) (fun (u : Unit) => []) 1 ?_ ?_
  · refine acode_seq ?_
    refine acode_region ?_
    refine And.intro (by first | omega | assumption | decide | (simp only [Int.toNat_natCast, dflt_sl, dflt_st, dflt_str, dflt_int, dflt_bool]; omega) | (simp <;> omega)) ?_
    refine acode_cond rfl (fun h16 => ?_) (fun h16 => ?_)
    · try simp only [decide_eq_false_iff_not, Bool.not_eq_true'] at h16
      try simp only [dflt_str] at h16
      refine acode_region ?_
      refine And.intro (by (have hk0 : ByteArray.size { data := #[32] } = 1 := rfl; first | (unfold maxLen; omega) | (simp only [ByteArray.size_append]; omega) | (unfold maxLen; (try simp only [ByteArray.size_append]); omega))) ?_
      refine And.intro (by first | omega | assumption | decide | (simp only [Int.toNat_natCast, dflt_sl, dflt_st, dflt_str, dflt_int, dflt_bool]; omega) | (simp <;> omega)) ?_
      refine And.intro (by (have hk0 : ByteArray.size { data := #[32] } = 1 := rfl; first | (unfold maxLen; omega) | (simp only [ByteArray.size_append]; omega) | (unfold maxLen; (try simp only [ByteArray.size_append]); omega))) ?_
      exact ⟨(), trivial, le_of ⟨rfl, (is_eq (by rw [← hp0, ByteArray.append_assoc]; exact first_b _ _ h16))⟩ trivial rfl⟩
    · try simp only [decide_eq_true_eq, Bool.not_eq_false'] at h16
      try simp only [dflt_str] at h16
      refine acode_skip ?_
      exact ⟨(), trivial, le_of ⟨rfl, (is_eq (by rw [← hp0]; exact first_e _ _ h16))⟩ trivial rfl⟩
  · intro u hcut5
    refine acode_seq ?_
    refine acode_region ?_
    refine acode_seq ?_
    refine acode_seq ?_
    refine acode_region ?_
    refine acode_block ?_
    refine acode_loopP (fun (i : Nat) => i ≤ (ws.drop 1).length) (fun (i : Nat) => [(3, .one (.sl .str ws)), (5, .one (.vec 1)), (6, ii .i64 ((i : Int) + 1))]) (fun (i : Nat) => [(1, .vec 9 .str (bytes (firstL f.1.data.toList p0.data.toList) :: ((ws.drop 1).take i).map fun s => bytes (32 :: stuffL s.data.toList)))]) 2 (fun (i : Nat) => (ws.drop 1).length - i) 0 (Nat.zero_le _) (le_of ⟨rfl, rfl, rfl⟩ rfl rfl) ?_
    intro i hI0
    have hi := hI0
    refine acode_seq ?_
    refine acode_seq ?_
    refine acode_region ?_
    intro l7_2
    try simp only [Int.toNat_natCast, dflt_sl, dflt_st, dflt_str, dflt_int, dflt_bool] at l7_2
    refine acode_cond rfl (fun h28 => ?_) (fun h28 => ?_)
    · try simp only [decide_eq_true_eq] at h28
      try simp only [Int.toNat_natCast, dflt_sl, dflt_st, dflt_str, dflt_int, dflt_bool] at h28
      have hlt : i + 1 < ws.length := by omega
      have hxm : ws.getD ((i : Int) + 1).toNat Rd.str.dflt ∈ ws := getD_mem (by omega) _
      have hxs := hsz _ hxm
      refine acode_skip ?_
      refine acode_seq ?_
      refine acode_block ?_
      refine acode_seq ?_
      refine acode_region ?_
      refine And.intro (by first | omega | assumption | decide | (simp only [Int.toNat_natCast, dflt_sl, dflt_st, dflt_str, dflt_int, dflt_bool]; omega) | (simp <;> omega)) ?_
      refine Or.inl ?_
      refine And.intro (rfl) ?_
      refine Exists.intro _ (And.intro (refKind_v _ _ rfl (by omega)) ?_)
      refine And.intro (fun h => trivial) ?_
      refine And.intro (fun h => trivial) ?_
      refine And.intro (fun h => ⟨⟨⟨h, trivial⟩, ⟨h, trivial⟩, trivial⟩, by first | omega | decide | (simp only [Int.toNat_natCast, dflt_sl, dflt_st, dflt_str, dflt_int, dflt_bool]; omega) | (have h9 := of_decide_eq_true h; omega) | (simp [gq] at h; omega)⟩) ?_
      refine And.intro (fun h => ⟨⟨h, trivial⟩, trivial⟩) ?_
      refine And.intro (fun h => ⟨⟨⟨h, trivial⟩, trivial⟩, by have h7 := kind_pos (hno _ hxm) (of_decide_eq_false (by simpa [gq] using h)); omega⟩) ?_
      refine And.intro (fun h => ⟨⟨h, trivial⟩, trivial⟩) ?_
      refine And.intro (by first | (intro h; rw [h]; rfl) | (intro h; cases h)) ?_
      refine acode_cond rfl (fun h44 => ?_) (fun h44 => ?_)
      · try simp only [decide_eq_true_eq, Bool.or_eq_true] at h44
        try simp only [dflt_str] at h44
        refine acode_region ?_
        refine And.intro (by first | omega | assumption | decide | (simp only [Int.toNat_natCast, dflt_sl, dflt_st, dflt_str, dflt_int, dflt_bool]; omega) | (simp <;> omega)) ?_
        refine And.intro (by (have hk0 : ByteArray.size { data := #[32, 46] } = 2 := rfl; first | (unfold maxLen; omega) | (simp only [ByteArray.size_append]; omega) | (unfold maxLen; (try simp only [ByteArray.size_append]); omega))) ?_
        refine And.intro (by first | exact app_le (by first | omega | (simp only [List.length_cons, List.length_nil, List.length_map, List.length_take, List.length_drop]; omega) | (simp; omega)) (by decide) | omega | assumption | decide | (simp only [Int.toNat_natCast, dflt_sl, dflt_st, dflt_str, dflt_int, dflt_bool]; omega) | (simp <;> omega)) ?_
        refine acode_region ?_
        refine And.intro (by first | omega | assumption | decide | (simp only [Int.toNat_natCast, dflt_sl, dflt_st, dflt_str, dflt_int, dflt_bool]; omega) | (simp <;> omega)) ?_
        exact ⟨i + 1, by omega, by first | omega | (simp <;> omega), le_of ⟨rfl, rfl, (ii_eq (by omega))⟩ (vec_eq (map_next (fun s : ByteArray => bytes (32 :: stuffL s.data.toList)) ByteArray.empty (by omega) _ (by rw [drop_getD]; exact ref_dot (hno _ hxm) (h44.imp id (fun e => u8_eq (b := 46) e))) [_])) rfl⟩
      · try simp only [decide_eq_false_iff_not, Bool.or_eq_false_iff] at h44
        try simp only [dflt_str] at h44
        refine acode_region ?_
        refine And.intro (by first | omega | assumption | decide | (simp only [Int.toNat_natCast, dflt_sl, dflt_st, dflt_str, dflt_int, dflt_bool]; omega) | (simp <;> omega)) ?_
        refine And.intro (by (have hk0 : ByteArray.size { data := #[32] } = 1 := rfl; first | (unfold maxLen; omega) | (simp only [ByteArray.size_append]; omega) | (unfold maxLen; (try simp only [ByteArray.size_append]); omega))) ?_
        refine And.intro (by first | exact app_le (by first | omega | (simp only [List.length_cons, List.length_nil, List.length_map, List.length_take, List.length_drop]; omega) | (simp; omega)) (by decide) | omega | assumption | decide | (simp only [Int.toNat_natCast, dflt_sl, dflt_st, dflt_str, dflt_int, dflt_bool]; omega) | (simp <;> omega)) ?_
        refine acode_region ?_
        refine And.intro (by first | omega | assumption | decide | (simp only [Int.toNat_natCast, dflt_sl, dflt_st, dflt_str, dflt_int, dflt_bool]; omega) | (simp <;> omega)) ?_
        exact ⟨i + 1, by omega, by first | omega | (simp <;> omega), le_of ⟨rfl, rfl, (ii_eq (by omega))⟩ (vec_eq (map_next (fun s : ByteArray => bytes (32 :: stuffL s.data.toList)) ByteArray.empty (by omega) _ (by rw [drop_getD]; exact ref_bare (hno _ hxm) h44.1 (fun e => h44.2 (by rw [show (ws.getD ((i : Int) + 1).toNat ByteArray.empty).data.toList.getD (Int.toNat 0) 0 = 46 from e]; rfl))) [_])) rfl⟩
    · try simp only [decide_eq_false_iff_not, Int.not_lt] at h28
      try simp only [Int.toNat_natCast, dflt_sl, dflt_st, dflt_str, dflt_int, dflt_bool] at h28
      refine acode_exit ?_
      refine acode_seq ?_
      refine acode_region ?_
      refine acode_ret ?_
      exact sl_eq (by rw [List.take_of_length_le (by omega), ← lineB_eq hsp hpos, hp0])
end Q
end Ab
end Go.Proofs.YtdedkoiodehmnaaDoor
namespace Go.Proofs.YtdedkoiodehmnaaDoor
open Go.RowKit
namespace Ab
set_option maxRecDepth 100000
namespace Q
theorem tlines {k v : ByteArray} : (lineB k v).length = (linesL k.data.toList v.data.toList).length := by unfold lineB; rw [List.length_map]
theorem text_step (x e p : List UInt8) (g : ByteArray) (hg : g = bytes p) : bytes (x ++ e) ++ g ++ ⟨#[10]⟩ = bytes (x ++ (e ++ (p ++ [10]))) := by
  rw [hg, ← List.append_assoc, ← List.append_assoc, bytes_app _ [10], bytes_app _ p]; rfl
theorem refFold_c (l : List Fld) (hl : ∀ f ∈ l, checkF f = 0) (hn : l.length ≤ 1000) : ACall Tryd.prog 22 [.one (.sl rFld l)] (is (bytes (foldL l))) := by
  refine acall_of (rs := [2]) Tryd.func22 rfl rfl rfl teOk rfl ?_
  refine acode_seq ?_
  refine acode_region ?_
  refine acode_seq ?_
  refine acode_region ?_
  refine acode_seq ?_
  refine acode_seq ?_
  refine acode_region ?_
  refine acode_block ?_
  refine acode_loopP (fun (i : Nat) => i ≤ l.length) (fun (i : Nat) => [(0, .one (.sl rFld l)), (3, is (bytes (foldL (l.take i)))), (4, ii .i64 i)]) (fun (i : Nat) => []) 0 (fun (i : Nat) => l.length - i) 0 (Nat.zero_le _) (le_of ⟨rfl, rfl, rfl⟩ trivial rfl) ?_
  intro i hI0
  have hi := hI0
  refine acode_seq ?_
  refine acode_seq ?_
  refine acode_region ?_
  intro l3_2
  try simp only [Int.toNat_natCast, dflt_sl, dflt_st, dflt_str, dflt_int, dflt_bool] at l3_2
  refine acode_cond rfl (fun h10 => ?_) (fun h10 => ?_)
  · try simp only [decide_eq_true_eq] at h10
    try simp only [Int.toNat_natCast, dflt_sl, dflt_st, dflt_str, dflt_int, dflt_bool] at h10
    have hlt : i < l.length := by omega
    have hm := hl _ (getD_mem hlt (ByteArray.empty, ByteArray.empty))
    have hco := check_ok hm
    have hfl : (foldL (l.take i)).length ≤ 1000 * 5000000 := by refine Nat.le_trans (flat_le textL 5000000 _ fun f hf => (text_len (hl f (List.mem_of_mem_take hf))).1) (Nat.mul_le_mul_right _ (by rw [List.length_take]; omega))
    refine acode_skip ?_
    refine acode_seq ?_
    refine acode_block ?_
    refine acode_seq ?_
    refine acode_region ?_
    refine And.intro (by first | omega | assumption | decide | (simp only [Int.toNat_natCast, dflt_sl, dflt_st, dflt_str, dflt_int, dflt_bool]; omega) | (simp <;> omega)) ?_
    refine Or.inl ?_
    refine And.intro (rfl) ?_
    refine Exists.intro _ (And.intro (refLines_c (l.getD i (ByteArray.empty, ByteArray.empty)) (by omega) (by omega)) ?_)
    intro l5_5
    try simp only [Int.toNat_natCast, dflt_sl, dflt_st, dflt_str, dflt_int, dflt_bool] at l5_5
    refine acode_block ?_
    refine acode_loopP (fun (k : Nat) => k ≤ (lineB (l.getD i (ByteArray.empty, ByteArray.empty)).1 (l.getD i (ByteArray.empty, ByteArray.empty)).2).length) (fun (k : Nat) => [(0, .one (.sl rFld l)), (3, is (bytes (foldL (l.take i) ++ endL ((linesL (l.getD i (ByteArray.empty, ByteArray.empty)).1.data.toList (l.getD i (ByteArray.empty, ByteArray.empty)).2.data.toList).take k)))), (4, ii .i64 i), (17, .one (.sl .str (lineB (l.getD i (ByteArray.empty, ByteArray.empty)).1 (l.getD i (ByteArray.empty, ByteArray.empty)).2))), (18, ii .i64 (lineB (l.getD i (ByteArray.empty, ByteArray.empty)).1 (l.getD i (ByteArray.empty, ByteArray.empty)).2).length), (19, ii .i64 k)]) (fun (k : Nat) => []) 0 (fun (k : Nat) => (lineB (l.getD i (ByteArray.empty, ByteArray.empty)).1 (l.getD i (ByteArray.empty, ByteArray.empty)).2).length - k) 0 (Nat.zero_le _) (le_of ⟨rfl, (is_eq (by simp [endL])), rfl, rfl, rfl, rfl⟩ trivial rfl) ?_
    intro k hI2
    have hk := hI2
    refine acode_seq ?_
    refine acode_region ?_
    refine acode_seq ?_
    refine acode_cond rfl (fun h20 => ?_) (fun h20 => ?_)
    · try simp only [decide_eq_true_eq] at h20
      try simp only [Int.toNat_natCast, dflt_sl, dflt_st, dflt_str, dflt_int, dflt_bool] at h20
      have hlk : k < (lineB (l.getD i (ByteArray.empty, ByteArray.empty)).1 (l.getD i (ByteArray.empty, ByteArray.empty)).2).length := by omega
      have hg := lineB_get hlk
      have hlk2 : k < (linesL (l.getD i (ByteArray.empty, ByteArray.empty)).1.data.toList (l.getD i (ByteArray.empty, ByteArray.empty)).2.data.toList).length := by rw [tlines] at hlk; exact hlk
      have hgs : ((lineB (l.getD i (ByteArray.empty, ByteArray.empty)).1 (l.getD i (ByteArray.empty, ByteArray.empty)).2).getD k ByteArray.empty).size ≤ 2000 := by rw [hg, bytes_size]; have h2 := hco.2.1; have h3 := hco.2.2; rw [size_list] at h2 h3; exact (line_len h3 h2).2 _ (getD_mem hlk2 _)
      have hen := (text_len hm).2 k
      have h10 : ByteArray.size ⟨#[10]⟩ = 1 := rfl
      have hps : (bytes (foldL (l.take i) ++ endL ((linesL (l.getD i (ByteArray.empty, ByteArray.empty)).1.data.toList (l.getD i (ByteArray.empty, ByteArray.empty)).2.data.toList).take k))).size ≤ 6000000000 := by rw [bytes_size, List.length_append]; omega
      have hgs' : ((lineB (l.getD i (ByteArray.empty, ByteArray.empty)).1 (l.getD i (ByteArray.empty, ByteArray.empty)).2).getD (k : Int).toNat Rd.str.dflt).size ≤ 2000 := hgs
      refine acode_skip ?_
      refine acode_seq ?_
      refine acode_block ?_
      refine acode_seq ?_
      refine acode_region ?_
      refine And.intro (by first | omega | assumption | decide | (simp only [Int.toNat_natCast, dflt_sl, dflt_st, dflt_str, dflt_int, dflt_bool]; omega) | (simp <;> omega)) ?_
      refine acode_region ?_
      refine And.intro (by first | omega | (simp only [ByteArray.size_append]; omega) | (unfold maxLen; (try simp only [ByteArray.size_append]); omega)) ?_
      refine And.intro (by (have hk0 : ByteArray.size { data := #[10] } = 1 := rfl; first | (unfold maxLen; omega) | (simp only [ByteArray.size_append]; omega) | (unfold maxLen; (try simp only [ByteArray.size_append]); omega))) ?_
      refine acode_region ?_
      refine And.intro (by first | omega | assumption | decide | (simp only [Int.toNat_natCast, dflt_sl, dflt_st, dflt_str, dflt_int, dflt_bool]; omega) | (simp <;> omega)) ?_
      exact ⟨k + 1, by omega, by first | omega | (simp <;> omega), le_of ⟨rfl, (is_eq (by rw [endL_snoc _ _ hlk2]; exact text_step _ _ _ _ hg)), rfl, rfl, rfl, (ii_eq (by omega))⟩ trivial rfl⟩
    · try simp only [decide_eq_false_iff_not, Int.not_lt] at h20
      try simp only [Int.toNat_natCast, dflt_sl, dflt_st, dflt_str, dflt_int, dflt_bool] at h20
      refine acode_exit ?_
      refine acode_region ?_
      refine And.intro (by first | omega | assumption | decide | (simp only [Int.toNat_natCast, dflt_sl, dflt_st, dflt_str, dflt_int, dflt_bool]; omega) | (simp <;> omega)) ?_
      exact ⟨i + 1, by omega, by first | omega | (simp <;> omega), le_of ⟨rfl, (is_eq (by rw [foldL_snoc l i (ByteArray.empty, ByteArray.empty) hlt, show List.take k (linesL (l.getD i (ByteArray.empty, ByteArray.empty)).1.data.toList (l.getD i (ByteArray.empty, ByteArray.empty)).2.data.toList) = linesL (l.getD i (ByteArray.empty, ByteArray.empty)).1.data.toList (l.getD i (ByteArray.empty, ByteArray.empty)).2.data.toList from List.take_of_length_le (by rw [← tlines]; omega)]; rfl)), (ii_eq (by omega))⟩ trivial rfl⟩
  · try simp only [decide_eq_false_iff_not, Int.not_lt] at h10
    try simp only [Int.toNat_natCast, dflt_sl, dflt_st, dflt_str, dflt_int, dflt_bool] at h10
    refine acode_exit ?_
    refine acode_seq ?_
    refine acode_region ?_
    refine acode_ret ?_
    exact is_eq (by rw [List.take_of_length_le (by omega)])
theorem copies_c (l : List Fld) (hn : l.length ≤ 1000) : ACall Tryd.prog 17 [.one (.sl rFld l)] (.one (.sl rFld l)) := by
  refine acall_of (rs := [2]) Tryd.func17 rfl rfl rfl teOk rfl ?_
  refine acode_seq ?_
  refine acode_region ?_
  refine acode_seq ?_
  refine acode_region ?_
  refine And.intro (by first | exact app_le (by first | omega | (simp only [List.length_nil]; omega) | (simp; omega)) (by decide) | omega | assumption | decide | (simp only [Int.toNat_natCast, dflt_sl, dflt_st, dflt_str, dflt_int, dflt_bool]; omega) | (simp <;> omega)) ?_
  refine acode_ret ?_
  exact sl_eq (by rfl)
theorem list_ext_take {α : Type} {a b : List α} {i : Nat} (d : α) (ha : i < a.length) (hb : i < b.length) (h : a.take i = b.take i) (he : a.getD i d = b.getD i d) : a.take (i + 1) = b.take (i + 1) := by
  rw [← take_snoc d ha, ← take_snoc d hb, h, he]
theorem ne_at {α : Type} {a b : List α} {i : Nat} (d : α) (he : a.getD i d ≠ b.getD i d) : ¬ a = b := fun e => he (by rw [e])
theorem fields_c (a b : List Fld) : ACall Tryd.prog 19 [.one (.sl rFld a), .one (.sl rFld b)] (ib (decide (a = b))) := by
  refine acall_of (rs := [4]) Tryd.func19 rfl rfl rfl teOk rfl ?_
  refine acode_seq ?_
  refine acode_region ?_
  refine acode_seq ?_
  refine acode_seq ?_
  refine acode_region ?_
  intro l1_1
  try simp only [Int.toNat_natCast, dflt_sl, dflt_st, dflt_str, dflt_int, dflt_bool] at l1_1
  intro l1_3
  try simp only [Int.toNat_natCast, dflt_sl, dflt_st, dflt_str, dflt_int, dflt_bool] at l1_3
  refine acode_cond rfl (fun h10 => ?_) (fun h10 => ?_)
  · try simp only [decide_eq_false_iff_not, Bool.not_eq_true'] at h10
    try simp only [Int.toNat_natCast, dflt_sl, dflt_st, dflt_str, dflt_int, dflt_bool] at h10
    refine acode_seq ?_
    refine acode_region ?_
    refine acode_ret ?_
    exact ib_eq (decide_eq_false (fun e => by rw [e] at h10; omega)).symm
  · try simp only [decide_eq_true_eq, Bool.not_eq_false'] at h10
    try simp only [Int.toNat_natCast, dflt_sl, dflt_st, dflt_str, dflt_int, dflt_bool] at h10
    refine acode_skip ?_
    refine acode_seq ?_
    refine acode_seq ?_
    refine acode_region ?_
    intro l3_1
    try simp only [Int.toNat_natCast, dflt_sl, dflt_st, dflt_str, dflt_int, dflt_bool] at l3_1
    refine acode_block ?_
    refine acode_loopP (fun (i : Nat) => i ≤ a.length ∧ a.take i = b.take i) (fun (i : Nat) => [(0, .one (.sl rFld a)), (1, .one (.sl rFld b)), (12, ii .i64 a.length), (13, ii .i64 i)]) (fun (i : Nat) => []) 0 (fun (i : Nat) => a.length - i) 0 (⟨Nat.zero_le _, by simp⟩) (le_of ⟨rfl, rfl, rfl, rfl⟩ trivial rfl) ?_
    intro i hI0
    obtain ⟨hi, ht⟩ := hI0
    refine acode_seq ?_
    refine acode_region ?_
    refine acode_seq ?_
    refine acode_cond rfl (fun h14 => ?_) (fun h14 => ?_)
    · try simp only [decide_eq_true_eq] at h14
      try simp only [Int.toNat_natCast, dflt_sl, dflt_st, dflt_str, dflt_int, dflt_bool] at h14
      have hla : i < a.length := by omega
      have hlb : i < b.length := by omega
      refine acode_skip ?_
      refine acode_seq ?_
      refine acode_block ?_
      refine acode_seq ?_
      refine acode_region ?_
      refine acode_seq ?_
      refine acode_draw rfl (by kernel_rfl) ?_
      refine And.intro (by first | omega | assumption | decide | (simp only [Int.toNat_natCast, dflt_sl, dflt_st, dflt_str, dflt_int, dflt_bool]; omega) | (simp <;> omega)) ?_
      refine And.intro (by first | omega | assumption | decide | (simp only [Int.toNat_natCast, dflt_sl, dflt_st, dflt_str, dflt_int, dflt_bool]; omega) | (simp <;> omega)) ?_
      refine And.intro (by rfl) ?_
      refine acode_cond rfl (fun h24 => ?_) (fun h24 => ?_)
      · try simp only [decide_eq_false_iff_not, Bool.not_eq_true', Bool.and_eq_false_iff] at h24
        try simp only [Int.toNat_natCast, dflt_st, dflt_str] at h24
        refine acode_seq ?_
        refine acode_region ?_
        refine acode_ret ?_
        exact ib_eq (decide_eq_false (ne_at (i := i) (ByteArray.empty, ByteArray.empty) (fun e => h24.elim (fun h => h (congrArg Prod.fst e)) (fun h => h (congrArg Prod.snd e))))).symm
      · try simp only [decide_eq_true_eq, Bool.and_eq_true, Bool.not_eq_false'] at h24
        try simp only [Int.toNat_natCast, dflt_st, dflt_str] at h24
        refine acode_skip ?_
        refine acode_region ?_
        refine And.intro (by first | omega | assumption | decide | (simp only [Int.toNat_natCast, dflt_sl, dflt_st, dflt_str, dflt_int, dflt_bool]; omega) | (simp <;> omega)) ?_
        exact ⟨i + 1, ⟨by omega, list_ext_take (ByteArray.empty, ByteArray.empty) hla hlb ht (Prod.ext h24.1 h24.2)⟩, by first | omega | (simp <;> omega), le_of ⟨rfl, rfl, rfl, (ii_eq (by omega))⟩ trivial rfl⟩
    · try simp only [decide_eq_false_iff_not, Int.not_lt] at h14
      try simp only [Int.toNat_natCast, dflt_sl, dflt_st, dflt_str, dflt_int, dflt_bool] at h14
      refine acode_exit ?_
      refine acode_seq ?_
      refine acode_region ?_
      refine acode_ret ?_
      exact ib_eq (decide_eq_true (by rw [List.take_of_length_le (by omega), List.take_of_length_le (by omega)] at ht; exact ht)).symm
abbrev rFault : Rd (Int × Value) := .st (.int .i64) .raw
def errF (at_ n : Int) : C := .ifc 97 (.addr rFault (at_, .iface 57 (.int .i64 n)))
theorem num_nil : ACall Tryd.prog 21 [.one (.lit .nilIface)] (ii .i64 0) := by
  refine acall_of (rs := [2]) Tryd.func21 rfl rfl rfl teOk rfl ?_
  refine acode_seq ?_
  refine acode_region ?_
  refine acode_seq ?_
  refine acode_seq ?_
  refine acode_region ?_
  refine acode_block ?_
  refine acode_loopP (fun (u : Unit) => True) (fun (u : Unit) => [(0, .one (.lit .nilIface)), (7, ii .i64 0)]) (fun (u : Unit) => []) 0 (fun (u : Unit) => 0) () (trivial) (le_of ⟨rfl, rfl⟩ trivial rfl) ?_
  intro u hI0
  refine acode_seq ?_
  refine acode_region ?_
  refine acode_seq ?_
  refine acode_cond rfl (fun h8 => ?_) (fun h8 => ?_)
  · try simp only [decide_eq_true_eq] at h8
    try simp only [Int.toNat_natCast, dflt_sl, dflt_st, dflt_str, dflt_int, dflt_bool] at h8
    refine acode_skip ?_
    refine acode_seq ?_
    refine acode_block ?_
    refine acode_seq ?_
    refine acode_seq ?_
    refine acode_region ?_
    refine acode_cond rfl (fun h10 => ?_) (fun h10 => ?_)
    · try simp only [Bool.not_eq_true'] at h10
      try simp only [Int.toNat_natCast, dflt_sl, dflt_st, dflt_str, dflt_int, dflt_bool] at h10
      refine acode_seq ?_
      refine acode_region ?_
      refine acode_ret ?_
      rfl
    · try simp only [Bool.not_eq_false'] at h10
      try simp only [Int.toNat_natCast, dflt_sl, dflt_st, dflt_str, dflt_int, dflt_bool] at h10
      cases h10
  · try simp only [decide_eq_false_iff_not, Int.not_lt] at h8
    try simp only [Int.toNat_natCast, dflt_sl, dflt_st, dflt_str, dflt_int, dflt_bool] at h8
    cases h8
theorem num_errno (n : Int) (hn : n ≠ 0) : ACall Tryd.prog 21 [.one (errN n)] (ii .i64 n) := by
  refine acall_of (rs := [2]) Tryd.func21 rfl rfl rfl teOk rfl ?_
  refine acode_seq ?_
  refine acode_region ?_
  refine acode_seq ?_
  refine acode_seq ?_
  refine acode_region ?_
  refine acode_block ?_
  refine acode_loopP (fun (u : Unit) => True) (fun (u : Unit) => [(0, .one (errN n)), (7, ii .i64 0)]) (fun (u : Unit) => []) 0 (fun (u : Unit) => 0) () (trivial) (le_of ⟨rfl, rfl⟩ trivial rfl) ?_
  intro u hI0
  refine acode_seq ?_
  refine acode_region ?_
  refine acode_seq ?_
  refine acode_cond rfl (fun h8 => ?_) (fun h8 => ?_)
  · try simp only [decide_eq_true_eq] at h8
    try simp only [Int.toNat_natCast, dflt_sl, dflt_st, dflt_str, dflt_int, dflt_bool] at h8
    refine acode_skip ?_
    refine acode_seq ?_
    refine acode_block ?_
    refine acode_seq ?_
    refine acode_seq ?_
    refine acode_region ?_
    refine acode_cond rfl (fun h10 => ?_) (fun h10 => ?_)
    · try simp only [decide_eq_true_eq, decide_eq_false_iff_not, Bool.and_eq_true, Bool.not_eq_true', Bool.not_eq_false', Bool.or_eq_false_iff, Bool.or_eq_true, Bool.and_eq_false_iff, Int.not_lt, Int.not_le] at h10
      try simp only [Int.toNat_natCast, dflt_sl, dflt_st, dflt_str, dflt_int, dflt_bool] at h10
      cases h10
    · skip
      refine acode_skip ?_
      refine acode_seq ?_
      refine acode_seq ?_
      refine acode_region ?_
      refine acode_seq ?_
      refine acode_region ?_
      refine And.intro (fun h => trivial) ?_
      refine And.intro (fun h => ⟨⟨h, trivial⟩, trivial⟩) ?_
      refine And.intro (by exact fun h => h) ?_
      refine acode_cond rfl (fun h20 => ?_) (fun h20 => ?_)
      · try simp only [decide_eq_false_iff_not, Bool.and_eq_true, Bool.not_eq_true'] at h20
        try simp only [Int.toNat_natCast, dflt_sl, dflt_st, dflt_str, dflt_int, dflt_bool] at h20
        refine acode_seq ?_
        refine acode_region ?_
        refine acode_ret ?_
        rfl
      · try simp only [decide_eq_true_eq, Bool.not_eq_false', Bool.and_eq_false_iff] at h20
        try simp only [Int.toNat_natCast, dflt_sl, dflt_st, dflt_str, dflt_int, dflt_bool] at h20
        exact absurd (h20.resolve_left (fun e => by cases e)) hn
  · try simp only [decide_eq_false_iff_not, Int.not_lt] at h8
    try simp only [Int.toNat_natCast, dflt_sl, dflt_st, dflt_str, dflt_int, dflt_bool] at h8
    cases h8
theorem num_fault (at_ n : Int) (hn : n ≠ 0) : ACall Tryd.prog 21 [.one (errF at_ n)] (ii .i64 n) := by
  refine acall_of (rs := [2]) Tryd.func21 rfl rfl rfl teOk rfl ?_
  refine acode_seq ?_
  refine acode_region ?_
  refine acode_seq ?_
  refine acode_seq ?_
  refine acode_region ?_
  refine acode_block ?_
  refine acode_loopP (fun (b : Bool) => True) (fun (b : Bool) => [(0, cond b (.one (errN n)) (.one (errF at_ n))), (7, ii .i64 (cond b 1 0))]) (fun (b : Bool) => []) 0 (fun (b : Bool) => cond b 0 1) false (trivial) (le_of ⟨rfl, rfl⟩ trivial rfl) ?_
  intro b hI0
  refine acode_seq ?_
  cases b
  · refine acode_region ?_
    refine acode_seq ?_
    refine acode_cond rfl (fun h8 => ?_) (fun h8 => ?_)
    · try simp only [decide_eq_true_eq] at h8
      try simp only [Int.toNat_natCast, dflt_sl, dflt_st, dflt_str, dflt_int, dflt_bool] at h8
      refine acode_skip ?_
      refine acode_seq ?_
      refine acode_block ?_
      refine acode_seq ?_
      refine acode_seq ?_
      refine acode_region ?_
      refine acode_cond rfl (fun h10 => ?_) (fun h10 => ?_)
      · try simp only [decide_eq_true_eq, decide_eq_false_iff_not, Bool.and_eq_true, Bool.not_eq_true', Bool.not_eq_false', Bool.or_eq_false_iff, Bool.or_eq_true, Bool.and_eq_false_iff, Int.not_lt, Int.not_le] at h10
        try simp only [Int.toNat_natCast, dflt_sl, dflt_st, dflt_str, dflt_int, dflt_bool] at h10
        cases h10
      · skip
        refine acode_skip ?_
        refine acode_seq ?_
        refine acode_seq ?_
        refine acode_region ?_
        refine acode_seq ?_
        refine acode_region ?_
        refine And.intro (fun h => trivial) ?_
        refine And.intro (fun h => ⟨⟨h, trivial⟩, trivial⟩) ?_
        refine And.intro (by exact fun h => h) ?_
        refine acode_cond rfl (fun h20 => ?_) (fun h20 => ?_)
        · try simp only [decide_eq_false_iff_not, Bool.and_eq_true, Bool.not_eq_true'] at h20
          try simp only [Int.toNat_natCast, dflt_sl, dflt_st, dflt_str, dflt_int, dflt_bool] at h20
          exact absurd h20.1 (by decide)
        · try simp only [decide_eq_true_eq, Bool.not_eq_false', Bool.and_eq_false_iff] at h20
          try simp only [Int.toNat_natCast, dflt_sl, dflt_st, dflt_str, dflt_int, dflt_bool] at h20
          refine acode_skip ?_
          refine acode_seq ?_
          refine acode_region ?_
          refine acode_seq ?_
          refine acode_seq ?_
          refine acode_region ?_
          refine And.intro (fun h => trivial) ?_
          refine And.intro (fun h => ⟨⟨h, trivial⟩, trivial⟩) ?_
          refine And.intro (by first | (intro h; rw [h]; rfl) | (intro h; cases h)) ?_
          refine And.intro (fun h => trivial) ?_
          refine And.intro (fun h => ⟨⟨h, trivial⟩, trivial⟩) ?_
          refine And.intro (fun h => ⟨⟨h, trivial⟩, trivial⟩) ?_
          refine And.intro (fun h => ⟨⟨h, trivial⟩, trivial⟩) ?_
          refine And.intro (fun h => ⟨⟨h, trivial⟩, trivial⟩) ?_
          refine And.intro (by first | (intro h; rw [h]; rfl) | (intro h; cases h)) ?_
          refine acode_cond rfl (fun h39 => ?_) (fun h39 => ?_)
          · try simp only [Bool.not_eq_true', Bool.or_eq_true] at h39
            try simp only [Int.toNat_natCast, dflt_sl, dflt_st, dflt_str, dflt_int, dflt_bool] at h39
            exact absurd h39 (by decide)
          · try simp only [Bool.not_eq_false', Bool.or_eq_false_iff] at h39
            try simp only [Int.toNat_natCast, dflt_sl, dflt_st, dflt_str, dflt_int, dflt_bool] at h39
            refine acode_skip ?_
            refine acode_region ?_
            refine acode_region ?_
            refine And.intro (by first | omega | assumption | decide | (simp only [Int.toNat_natCast, dflt_sl, dflt_st, dflt_str, dflt_int, dflt_bool]; omega) | (simp <;> omega)) ?_
            exact ⟨true, trivial, by decide, le_of ⟨rfl, rfl⟩ trivial rfl⟩
    · try simp only [decide_eq_false_iff_not, Int.not_lt] at h8
      try simp only [Int.toNat_natCast, dflt_sl, dflt_st, dflt_str, dflt_int, dflt_bool] at h8
      exact absurd h8 (by decide)
  · refine acode_region ?_
    refine acode_seq ?_
    refine acode_cond rfl (fun h8 => ?_) (fun h8 => ?_)
    · try simp only [decide_eq_true_eq] at h8
      try simp only [Int.toNat_natCast, dflt_sl, dflt_st, dflt_str, dflt_int, dflt_bool] at h8
      refine acode_skip ?_
      refine acode_seq ?_
      refine acode_block ?_
      refine acode_seq ?_
      refine acode_seq ?_
      refine acode_region ?_
      refine acode_cond rfl (fun h10 => ?_) (fun h10 => ?_)
      · try simp only [decide_eq_true_eq, decide_eq_false_iff_not, Bool.and_eq_true, Bool.not_eq_true', Bool.not_eq_false', Bool.or_eq_false_iff, Bool.or_eq_true, Bool.and_eq_false_iff, Int.not_lt, Int.not_le] at h10
        try simp only [Int.toNat_natCast, dflt_sl, dflt_st, dflt_str, dflt_int, dflt_bool] at h10
        cases h10
      · skip
        refine acode_skip ?_
        refine acode_seq ?_
        refine acode_seq ?_
        refine acode_region ?_
        refine acode_seq ?_
        refine acode_region ?_
        refine And.intro (fun h => trivial) ?_
        refine And.intro (fun h => ⟨⟨h, trivial⟩, trivial⟩) ?_
        refine And.intro (by exact fun h => h) ?_
        refine acode_cond rfl (fun h20 => ?_) (fun h20 => ?_)
        · try simp only [decide_eq_false_iff_not, Bool.and_eq_true, Bool.not_eq_true'] at h20
          try simp only [Int.toNat_natCast, dflt_sl, dflt_st, dflt_str, dflt_int, dflt_bool] at h20
          refine acode_seq ?_
          refine acode_region ?_
          refine acode_ret ?_
          rfl
        · try simp only [decide_eq_true_eq, Bool.not_eq_false', Bool.and_eq_false_iff] at h20
          try simp only [Int.toNat_natCast, dflt_sl, dflt_st, dflt_str, dflt_int, dflt_bool] at h20
          exact absurd (h20.resolve_left (fun e => by cases e)) hn
    · try simp only [decide_eq_false_iff_not, Int.not_lt] at h8
      try simp only [Int.toNat_natCast, dflt_sl, dflt_st, dflt_str, dflt_int, dflt_bool] at h8
      exact absurd h8 (by decide)
end Q
end Ab
end Go.Proofs.YtdedkoiodehmnaaDoor
namespace Go.Proofs.YtdedkoiodehmnaaDoor
open Go.RowKit
namespace Ab
set_option maxRecDepth 100000
namespace Q
theorem fields_self (l : List Fld) : ACall Tryd.prog 19 [.one (.sl rFld l), .one (.sl rFld l)] (ib true) := by
  have := fields_c l l
  rw [decide_eq_true rfl] at this
  exact this
theorem refCheck_v (f : Fld) (n : Int) (hk : f.1.size ≤ 1000000000) (h : checkF f = n) : ACall Tryd.prog 20 [.agg (toL rFld f)] (ii .i64 n) := by
  subst h; exact refCheck_c f hk
theorem badF_ne {l : List Fld} (h : ¬ badF l = 0) : badF l = 5 ∨ badF l = 6 := by
  induction l with
  | nil => exact absurd rfl h
  | cons f r ih =>
    unfold badF at h ⊢
    split
    · rename_i h0; rw [if_pos h0] at h; exact ih h
    · rename_i h0; rcases check_cases f with hc | hc | hc
      · exact .inl hc
      · exact .inr hc
      · exact absurd hc h0
theorem FoldTexts_c (l : List Fld) : ACall Tryd.prog 3 [.one (.sl rFld l)] (ib true) := by
  refine acall_of (rs := [2]) Tryd.func3 rfl rfl rfl teOk rfl ?_
  refine acode_seq ?_
  refine acode_region ?_
  refine acode_seq ?_
  refine acode_seq ?_
  refine acode_region ?_
  refine Or.inl ?_
  refine And.intro (rfl) ?_
  refine Exists.intro _ (And.intro (falive_c) ?_)
  refine acode_cond rfl (fun h10 => ?_) (fun h10 => ?_)
  · try simp only [Bool.not_eq_true'] at h10
    try simp only [Int.toNat_natCast, dflt_sl, dflt_st, dflt_str, dflt_int, dflt_bool] at h10
    cases h10
  · try simp only [Bool.not_eq_false'] at h10
    try simp only [Int.toNat_natCast, dflt_sl, dflt_st, dflt_str, dflt_int, dflt_bool] at h10
    refine acode_skip ?_
    refine acode_seq ?_
    refine acode_seq ?_
    refine acode_region ?_
    refine Or.inl ?_
    refine And.intro (rfl) ?_
    refine Exists.intro _ (And.intro (much_c l) ?_)
    refine acode_cond rfl (fun h12 => ?_) (fun h12 => ?_)
    · try simp only [decide_eq_true_eq, decide_eq_false_iff_not, Bool.and_eq_true, Bool.not_eq_true', Bool.not_eq_false', Bool.or_eq_false_iff, Bool.or_eq_true, Bool.and_eq_false_iff, Int.not_lt, Int.not_le] at h12
      try simp only [Int.toNat_natCast, dflt_sl, dflt_st, dflt_str, dflt_int, dflt_bool] at h12
      refine acode_seq ?_
      refine acode_region ?_
      refine acode_ret ?_
      rfl
    · try simp only [decide_eq_true_eq, decide_eq_false_iff_not, Bool.and_eq_true, Bool.not_eq_true', Bool.not_eq_false', Bool.or_eq_false_iff, Bool.or_eq_true, Bool.and_eq_false_iff, Int.not_lt, Int.not_le] at h12
      try simp only [Int.toNat_natCast, dflt_sl, dflt_st, dflt_str, dflt_int, dflt_bool] at h12
      have hl := much_ok h12
      have hln := hl.1
      refine acode_skip ?_
      refine acode_seq ?_
      refine acode_region ?_
      refine Or.inl ?_
      refine And.intro (rfl) ?_
      refine Exists.intro _ (And.intro (copies_c l hln) ?_)
      refine acode_seq ?_
      by_cases hb : badF l = 0
      · refine acode_region ?_
        refine Or.inl ?_
        refine And.intro (rfl) ?_
        refine Exists.intro _ (And.intro (fold_yes hl hb) ?_)
        refine acode_seq ?_
        refine acode_seq ?_
        refine acode_region ?_
        refine Or.inl ?_
        refine And.intro (rfl) ?_
        refine Exists.intro _ (And.intro (fields_self l) ?_)
        refine acode_cond rfl (fun h23 => ?_) (fun h23 => ?_)
        · try simp only [Bool.not_eq_true'] at h23
          try simp only [Int.toNat_natCast, dflt_sl, dflt_st, dflt_str, dflt_int, dflt_bool] at h23
          cases h23
        · try simp only [Bool.not_eq_false'] at h23
          try simp only [Int.toNat_natCast, dflt_sl, dflt_st, dflt_str, dflt_int, dflt_bool] at h23
          refine acode_skip ?_
          refine acode_seq ?_
          refine acode_seq ?_
          refine acode_region ?_
          intro l9_1
          try simp only [Int.toNat_natCast, dflt_sl, dflt_st, dflt_str, dflt_int, dflt_bool] at l9_1
          refine acode_block ?_
          refine acode_loopP (fun (i : Nat) => i ≤ l.length) (fun (i : Nat) => [(0, .one (.sl rFld l)), (4, is (bytes (foldL l))), (5, .one (.lit .nilIface)), (24, .one (.sl rFld l)), (25, ii .i64 l.length), (26, ii .i64 i)]) (fun (i : Nat) => []) 0 (fun (i : Nat) => l.length - i) 0 (Nat.zero_le _) (le_of ⟨rfl, rfl, rfl, rfl, rfl, rfl⟩ trivial rfl) ?_
          intro i hI0
          refine acode_seq ?_
          refine acode_region ?_
          refine acode_seq ?_
          refine acode_cond rfl (fun h27 => ?_) (fun h27 => ?_)
          · try simp only [decide_eq_true_eq] at h27
            try simp only [Int.toNat_natCast, dflt_sl, dflt_st, dflt_str, dflt_int, dflt_bool] at h27
            have hlt : i < l.length := by omega
            have hm := hl.2 _ (getD_mem hlt (ByteArray.empty, ByteArray.empty))
            refine acode_skip ?_
            refine acode_seq ?_
            refine acode_block ?_
            refine acode_seq ?_
            refine acode_region ?_
            refine And.intro (by first | omega | assumption | decide | (simp only [Int.toNat_natCast, dflt_sl, dflt_st, dflt_str, dflt_int, dflt_bool]; omega) | (simp <;> omega)) ?_
            refine acode_seq ?_
            refine acode_region ?_
            refine Or.inl ?_
            refine And.intro (rfl) ?_
            refine Exists.intro _ (And.intro (refCheck_v (l.getD i (ByteArray.empty, ByteArray.empty)) 0 (by omega) (badF_zero hb _ (getD_mem hlt (ByteArray.empty, ByteArray.empty)))) ?_)
            refine acode_seq ?_
            refine acode_region ?_
            refine acode_cond rfl (fun h33 => ?_) (fun h33 => ?_)
            · try simp only [decide_eq_false_iff_not, Bool.not_eq_true'] at h33
              try simp only [Int.toNat_natCast, dflt_sl, dflt_st, dflt_str, dflt_int, dflt_bool] at h33
              exact absurd h33 (by decide)
            · try simp only [decide_eq_true_eq, Bool.not_eq_false'] at h33
              try simp only [Int.toNat_natCast, dflt_sl, dflt_st, dflt_str, dflt_int, dflt_bool] at h33
              refine acode_skip ?_
              refine acode_region ?_
              refine And.intro (by first | omega | assumption | decide | (simp only [Int.toNat_natCast, dflt_sl, dflt_st, dflt_str, dflt_int, dflt_bool]; omega) | (simp <;> omega)) ?_
              exact ⟨i + 1, by omega, by first | omega | (simp <;> omega), le_of ⟨rfl, rfl, rfl, rfl, rfl, (ii_eq (by omega))⟩ trivial rfl⟩
          · try simp only [decide_eq_false_iff_not, Int.not_lt] at h27
            try simp only [Int.toNat_natCast, dflt_sl, dflt_st, dflt_str, dflt_int, dflt_bool] at h27
            refine acode_exit ?_
            refine acode_seq ?_
            refine acode_region ?_
            refine And.intro (fun h => trivial) ?_
            refine And.intro (fun h => trivial) ?_
            refine And.intro (rfl) ?_
            refine Exists.intro _ (And.intro (fun h => ⟨⟨⟨h, trivial⟩, trivial⟩, refFold_c l (badF_zero hb) hln⟩) ?_)
            refine And.intro (fun h => ⟨⟨h, trivial⟩, ⟨h, trivial⟩, trivial⟩) ?_
            refine And.intro (by exact fun h => h) ?_
            refine acode_ret ?_
            exact ib_eq (by simp)
      · refine acode_region ?_
        refine Or.inl ?_
        refine And.intro (rfl) ?_
        refine Exists.intro _ (And.intro (fold_no hl hb) ?_)
        refine acode_seq ?_
        refine acode_seq ?_
        refine acode_region ?_
        refine Or.inl ?_
        refine And.intro (rfl) ?_
        refine Exists.intro _ (And.intro (fields_self l) ?_)
        refine acode_cond rfl (fun h23 => ?_) (fun h23 => ?_)
        · try simp only [Bool.not_eq_true'] at h23
          try simp only [Int.toNat_natCast, dflt_sl, dflt_st, dflt_str, dflt_int, dflt_bool] at h23
          cases h23
        · try simp only [Bool.not_eq_false'] at h23
          try simp only [Int.toNat_natCast, dflt_sl, dflt_st, dflt_str, dflt_int, dflt_bool] at h23
          refine acode_skip ?_
          refine acode_seq ?_
          refine acode_seq ?_
          refine acode_region ?_
          intro l9_1
          try simp only [Int.toNat_natCast, dflt_sl, dflt_st, dflt_str, dflt_int, dflt_bool] at l9_1
          refine acode_block ?_
          refine acode_loopP (fun (i : Nat) => i ≤ l.length ∧ ∀ f ∈ l.take i, checkF f = 0) (fun (i : Nat) => [(0, .one (.sl rFld l)), (4, is ⟨#[]⟩), (5, .one (errN (badF l))), (24, .one (.sl rFld l)), (25, ii .i64 l.length), (26, ii .i64 i)]) (fun (i : Nat) => []) 0 (fun (i : Nat) => l.length - i) 0 (⟨Nat.zero_le _, by simp⟩) (le_of ⟨rfl, rfl, rfl, rfl, rfl, rfl⟩ trivial rfl) ?_
          intro i hI0
          refine acode_seq ?_
          refine acode_region ?_
          refine acode_seq ?_
          refine acode_cond rfl (fun h27 => ?_) (fun h27 => ?_)
          · try simp only [decide_eq_true_eq] at h27
            try simp only [Int.toNat_natCast, dflt_sl, dflt_st, dflt_str, dflt_int, dflt_bool] at h27
            have hlt : i < l.length := by omega
            have hm := hl.2 _ (getD_mem hlt (ByteArray.empty, ByteArray.empty))
            refine acode_skip ?_
            refine acode_seq ?_
            refine acode_block ?_
            refine acode_seq ?_
            refine acode_region ?_
            refine And.intro (by first | omega | assumption | decide | (simp only [Int.toNat_natCast, dflt_sl, dflt_st, dflt_str, dflt_int, dflt_bool]; omega) | (simp <;> omega)) ?_
            refine acode_seq ?_
            refine acode_region ?_
            refine Or.inl ?_
            refine And.intro (rfl) ?_
            refine Exists.intro _ (And.intro (refCheck_c (l.getD i (ByteArray.empty, ByteArray.empty)) (by omega)) ?_)
            refine acode_seq ?_
            refine acode_region ?_
            refine acode_cond rfl (fun h33 => ?_) (fun h33 => ?_)
            · try simp only [decide_eq_false_iff_not, Bool.not_eq_true'] at h33
              try simp only [Int.toNat_natCast, dflt_sl, dflt_st, dflt_str, dflt_int, dflt_bool] at h33
              have hbi : badF l = checkF (l.getD i (ByteArray.empty, ByteArray.empty)) := badF_at (ByteArray.empty, ByteArray.empty) hlt hI0.2 h33
              refine acode_seq ?_
              refine acode_region ?_
              refine Or.inl ?_
              refine And.intro (rfl) ?_
              refine Exists.intro _ (And.intro (num_errno _ hb) ?_)
              refine And.intro (fun h => trivial) ?_
              refine And.intro (fun h => ⟨⟨h, trivial⟩, trivial⟩) ?_
              refine And.intro (by exact fun h => h) ?_
              refine acode_ret ?_
              exact ib_eq (by rw [hbi]; simp)
            · try simp only [decide_eq_true_eq, Bool.not_eq_false'] at h33
              try simp only [Int.toNat_natCast, dflt_sl, dflt_st, dflt_str, dflt_int, dflt_bool] at h33
              refine acode_skip ?_
              refine acode_region ?_
              refine And.intro (by first | omega | assumption | decide | (simp only [Int.toNat_natCast, dflt_sl, dflt_st, dflt_str, dflt_int, dflt_bool]; omega) | (simp <;> omega)) ?_
              exact ⟨i + 1, ⟨by omega, by rw [← take_snoc (ByteArray.empty, ByteArray.empty) hlt]; intro f hf; rcases List.mem_append.1 hf with h|h; exact hI0.2 f h; rw [List.mem_singleton.1 h]; exact h33⟩, by first | omega | (simp <;> omega), le_of ⟨rfl, rfl, rfl, rfl, rfl, (ii_eq (by omega))⟩ trivial rfl⟩
          · try simp only [decide_eq_false_iff_not, Int.not_lt] at h27
            try simp only [Int.toNat_natCast, dflt_sl, dflt_st, dflt_str, dflt_int, dflt_bool] at h27
            exact absurd (badF_ok (by have := hI0.2; rw [List.take_of_length_le (by omega)] at this; exact this)) hb
end Q
end Ab
end Go.Proofs.YtdedkoiodehmnaaDoor
namespace Go.Proofs.YtdedkoiodehmnaaDoor
open Go.RowKit
namespace Ab
set_option maxRecDepth 100000
theorem o_str : Opens Tryd.prog 9 .str := opens_str Tryd.underlying9 (by kernel_rfl)
theorem o_int : Opens Tryd.prog 3 (.int .i64) := opens_int Tryd.underlying3 (by kernel_rfl)
theorem o_bool : Opens Tryd.prog 4 .bool := opens_bool Tryd.underlying4 (by kernel_rfl)
theorem o_field : Opens Tryd.prog 32 (.st .str .str) := opens_st Tryd.underlying32 (by kernel_rfl) (.cons rfl o_str (.one rfl o_str))
theorem o_fields : Opens Tryd.prog 22 (.sl (.st .str .str)) := opens_sl (by decide) Tryd.underlying22 (by kernel_rfl) o_field
theorem open_fields {H : Type} {enc : TypeId × Value → H} {W : World} {base : Nat} {v : Value} {d : DataW H} {p : List MemPlace} (hv : Value.okWide Tryd.prog W .any base 22 v) (h : DataW.Trod enc Tryd.prog W 0 (fun _ => true) true 22 v d p) :
    ∃ xs, (C.sl (.st .str .str) xs).rep AllOk noNames W v := open_sl Tryd.underlying22 o_fields hv h
/-- The library's variable holds some number. -/
theorem globAt {W : World} (h : W.ShapedOpen Tryd.prog) : GlobAt AllOk W := by
  have hc : GlobCell W := cell_of_shapedOpen_int (g := 0) (t := 3) (zero := #[.int .i64 0]) h (of_decide_eq_true (by kernel_rfl)) (by kernel_rfl) rfl (by kernel_rfl) (by kernel_rfl) Tryd.underlying3
  refine ⟨trivial, ?_, hc⟩
  obtain ⟨m, hm⟩ := hc
  rcases Nat.lt_or_ge 0 W.heap.size with h1 | h1
  · exact h1
  · exfalso
    simp only [World.cell?, Array.getElem?_eq_none h1] at hm
    cases hm
end Ab
end Go.Proofs.YtdedkoiodehmnaaDoor
namespace Go.Proofs.YtdedkoiodehmnaaDoor
open Go.RowKit
namespace Ab
set_option maxRecDepth 100000
theorem open_agg {P : Program} {α : Type} {R : Rd α} {t : TypeId} {fs : Array Field} (hu : P.underlying t = some (.struct fs)) (ho : Opens P t R) {H : Type} {enc : TypeId × Value → H} {W : World} {base : Nat} {v : Value} {d : DataW H} {p : List MemPlace} (hv : Value.okWide P W .any base t v)
    (h : DataW.Trod enc P W 0 (fun _ => true) true t v d p) : ∃ x : α, (A.agg (toL R x)).rep AllOk noNames W v := by
  obtain ⟨cs, rfl, _⟩ := Go.WideShapes.okWide_struct hu hv
  obtain ⟨fuel, hf⟩ := h
  obtain ⟨x, hx⟩ := ho.2 enc W _ _ _ _ _ _ hf
  exact ⟨x, cs.toList, by simp, toL_rep R hx⟩
theorem open_field {H : Type} {enc : TypeId × Value → H} {W : World} {base : Nat} {v : Value} {d : DataW H} {p : List MemPlace} (hv : Value.okWide Tryd.prog W .any base 32 v) (h : DataW.Trod enc Tryd.prog W 0 (fun _ => true) true 32 v d p) :
    ∃ x, (A.agg (toL (.st .str .str) x)).rep AllOk noNames W v := open_agg Tryd.underlying32 o_field hv h
end Ab
end Go.Proofs.YtdedkoiodehmnaaDoor
