/-
  More of the library's functions, abstractly: each by its contract on the shelf.
-/
import Derived.Test.YthlfbpmbkcoclaaDoorAbShelf
import Derived.Shelf.Strings.SlTrimAscii
import Derived.Test.YthlfbpmbkcoclaaDoorQKey
import Derived.Lib.SlTrimSet
import Derived.Test.YthlfbpmbkcoclaaDoorQLine
import Derived.Test.YthlfbpmbkcoclaaDoorQParse
import Derived.Test.YthlfbpmbkcoclaaDoorQLaw
namespace Go.Proofs.YthlfbpmbkcoclaaDoor
open Go.RowKit
namespace Ab
theorem trimS_c (s p : ByteArray) (hp : p.data.toList.all (fun b => decide (b.toNat < 128)) = true) (hps : p.size < 4294967281) (hs : s.size ≤ 9223372036854775807) : ACall Tryd.prog 86 [is s, is p] (is ⟨(Lib.trimS s.data.toList p.data.toList).toArray⟩) :=
  acall2 ⟨_, Tryd.func86, rfl, rfl⟩ (fun _ _ => rfl) fun w _ => (Any.strings_Trim_laid Tryd.lays160 (by kernel_rfl) s p w hs hps (ascii_of_all hp)).mono fun _ _ h => h
end Ab
end Go.Proofs.YthlfbpmbkcoclaaDoor
namespace Go.Proofs.YthlfbpmbkcoclaaDoor
open Go.RowKit
namespace Ab
namespace Q

theorem dropWhile_nil {α : Type} {p : α → Bool} : ∀ {l : List α}, l.dropWhile p = [] ↔ l.all p = true
  | [] => by simp
  | a :: l => by
    rw [List.dropWhile_cons, List.all_cons]
    cases h : p a
    · simp
    · simp [dropWhile_nil (p := p) (l := l)]
theorem mem_tw {α : Type} {p : α → Bool} {x : α} : ∀ {l : List α}, x ∈ l.takeWhile p → p x = true
  | a :: l, h => by
    rw [List.takeWhile_cons] at h
    split at h
    · rename_i hp
      rcases List.mem_cons.1 h with rfl | h
      · exact hp
      · exact mem_tw h
    · cases h
theorem trim_nil (l : List UInt8) : Lib.trimS l [32, 9] = [] ↔ l.all blankC = true := by
  have hp : (fun c : UInt8 => ([32, 9] : List UInt8).contains c) = blankC := by
    funext c; unfold blankC; simp
  unfold Lib.trimS Lib.trimLeftS Lib.trimRightS
  rw [show (fun x : UInt8 => ([32, 9] : List UInt8).contains x) = blankC from hp, dropWhile_nil]
  refine ⟨fun h => ?_, fun h => ?_⟩
  · refine List.all_eq_true.2 fun x hx => ?_
    by_cases hb : blankC x = true
    · exact hb
    · exfalso
      have h2 : x ∈ (l.reverse.dropWhile blankC) := by
        have hs : l.reverse = l.reverse.takeWhile blankC ++ l.reverse.dropWhile blankC := (List.takeWhile_append_dropWhile).symm
        have hm : x ∈ l.reverse := List.mem_reverse.2 hx
        rw [hs] at hm
        rcases List.mem_append.1 hm with h3 | h3
        · exact absurd (mem_tw h3) hb
        · exact h3
      exact hb (List.all_eq_true.1 h x (List.mem_reverse.2 h2))
  · have : l.reverse.dropWhile blankC = [] := dropWhile_nil.2 (by rw [List.all_reverse]; exact h)
    rw [this]; rfl
/-- A further line of a value, so that it can't be taken for another kind of line. -/
def stuffL (s : List UInt8) : List UInt8 := if s.all blankC || Lib.hasPrefix s [46] then 46 :: s else s
def partsL (v : List UInt8) : List (List UInt8) := Lib.split v [10]
def firstL (key : List UInt8) (p : List UInt8) : List UInt8 := key ++ [58] ++ (if p = [] then [] else 32 :: p)
def linesL (key v : List UInt8) : List (List UInt8) := firstL key ((partsL v).headD []) :: ((partsL v).drop 1).map fun s => 32 :: stuffL s
/-- A line's kind. -/
def kindL (l : List UInt8) : Int := if 10 ∈ l then 5 else if l.all blankC = true then 1 else if Lib.hasPrefix l [35] = true then 2 else if blankL l = true then 3
  else if ((Lib.cut l [58]).2.2 && keyOk (Lib.cut l [58]).1) = true then 4 else 5
theorem split_ne (v : List UInt8) (sep : List UInt8) : Lib.split v sep ≠ [] := by
  unfold Lib.split
  cases Lib.count v sep with
  | zero => simp [Lib.splitK]
  | succ k => unfold Lib.splitK; split <;> simp
theorem splitK_one (v : List UInt8) (c : UInt8) : ∀ k, v.length ≤ k → (∀ p ∈ Lib.split v [c], c ∉ p) ∧ Lib.join (Lib.split v [c]) [c] = v := by
  intro k
  induction k generalizing v with
  | zero =>
    intro h
    obtain rfl : v = [] := List.eq_nil_of_length_eq_zero (by omega)
    exact ⟨fun p hp => by
      have : p = [] := by simpa [Lib.split, Lib.count, Lib.countFrom, Lib.index, Lib.splitK] using hp
      rw [this]; simp, by simp [Lib.split, Lib.count, Lib.countFrom, Lib.index, Lib.splitK, Lib.join_one]⟩
  | succ k ih =>
    intro h
    rcases Lib.index_spec v [c] with ⟨hi, hn⟩ | ⟨i, hi, hil, ho, hno⟩
    · have e : Lib.split v [c] = [v] := by unfold Lib.split; rw [Lib.count_miss hi]; rfl
      rw [e]
      refine ⟨fun p hp hc => ?_, Lib.join_one _ _⟩
      rw [List.mem_singleton.1 hp] at hc
      obtain ⟨j, hj, e⟩ := List.getElem_of_mem hc
      have := hn j (Nat.le_of_lt hj)
      rw [(occ_one v c j).2 (by rw [List.getElem?_eq_getElem hj, e])] at this
      cases this
    · have hat := (occ_one v c i).1 ho
      obtain ⟨hlt, hat⟩ := List.getElem?_eq_some_iff.1 hat
      have e : Lib.split v [c] = v.take i :: Lib.split (v.drop (i + 1)) [c] := by
        unfold Lib.split
        rw [Lib.count_hit (by simp) hi, Nat.add_comm, Lib.splitK, hi, if_neg (by intro e; have := beq_iff_eq.1 e; omega), Int.toNat_natCast]
        rfl
      obtain ⟨h1, h2⟩ := ih (v.drop (i + 1)) (by rw [List.length_drop]; omega)
      rw [e]
      refine ⟨fun p hp => ?_, ?_⟩
      · rcases List.mem_cons.1 hp with rfl | hp
        · intro hc
          obtain ⟨j, hj, e⟩ := List.getElem_of_mem hc
          rw [List.length_take] at hj
          have := hno j (by omega)
          rw [(occ_one v c j).2 (by rw [List.getElem?_eq_getElem (by omega)]; rw [List.getElem_take] at e; rw [e])] at this
          cases this
        · exact h1 p hp
      · obtain ⟨q, qs, eq⟩ : ∃ q qs, Lib.split (v.drop (i + 1)) [c] = q :: qs := by
          cases e2 : Lib.split (v.drop (i + 1)) [c] with
          | nil => exact absurd e2 (split_ne _ _)
          | cons q qs => exact ⟨q, qs, rfl⟩
        rw [eq] at h2 ⊢
        rw [join_two, h2, List.append_assoc]
        have := List.take_append_drop i v
        rw [List.drop_eq_getElem_cons hlt, hat] at this
        exact this
theorem parts_no (v : List UInt8) : ∀ p ∈ partsL v, 10 ∉ p := (splitK_one v 10 _ (Nat.le_refl _)).1
theorem parts_join (v : List UInt8) : Lib.join (partsL v) [10] = v := (splitK_one v 10 _ (Nat.le_refl _)).2

theorem cut_at {key r : List UInt8} {c : UInt8} (h : c ∉ key) : Lib.cut (key ++ c :: r) [c] = (key, r, true) := by
  have hi : Lib.index (key ++ c :: r) [c] = key.length := by
    refine Lib.index_first (by simp) ((occ_one _ _ _).2 (by simp)) fun j hj => Bool.eq_false_iff.2 fun e => ?_
    have := (occ_one _ _ _).1 e
    rw [List.getElem?_append_left hj] at this
    exact h (List.mem_of_getElem? this)
  unfold Lib.cut
  rw [hi, if_pos (by omega), Int.toNat_natCast, List.take_left]
  show (key, List.drop (key.length + 1) (key ++ c :: r), true) = _
  rw [← List.drop_drop, List.drop_left]; rfl
theorem keyOk_spec {k : List UInt8} (h : keyOk k = true) : ∃ c r, k = c :: r ∧ blankC c = false ∧ c ≠ 35 ∧ 58 ∉ k ∧ 10 ∉ k ∧ k.length ≤ 32 := by
  unfold keyOk at h
  simp only [Bool.and_eq_true, decide_eq_true_eq, Bool.not_eq_true', decide_eq_false_iff_not] at h
  obtain ⟨⟨⟨⟨⟨h1, h2⟩, h3⟩, h4⟩, h5⟩, h6⟩ := h
  cases k with
  | nil => simp at h1
  | cons c r => exact ⟨c, r, rfl, by simpa using h3, by simpa using h4, h5, h6, h2⟩
theorem first_kind {k p : List UInt8} (hk : keyOk k = true) (hp : 10 ∉ p) : kindL (firstL k p) = 4 ∧ Lib.cut (firstL k p) [58] = (k, (if p = [] then [] else 32 :: p), true) := by
  obtain ⟨c, r, rfl, hb, h35, h58, h10, _⟩ := keyOk_spec hk
  have hc : Lib.cut (firstL (c :: r) p) [58] = (c :: r, (if p = [] then [] else 32 :: p), true) := by
    have : firstL (c :: r) p = (c :: r) ++ 58 :: (if p = [] then [] else 32 :: p) := by unfold firstL; simp
    rw [this, cut_at h58]
  refine ⟨?_, hc⟩
  have hm : 10 ∉ firstL (c :: r) p := by
    unfold firstL
    simp only [List.mem_append, not_or]
    refine ⟨⟨h10, by decide⟩, ?_⟩
    split
    · simp
    · simp only [List.mem_cons, not_or]; exact ⟨by decide, hp⟩
  have hh : firstL (c :: r) p = c :: (r ++ [58] ++ (if p = [] then [] else 32 :: p)) := by unfold firstL; simp
  unfold kindL
  rw [if_neg hm, if_neg (by rw [hh, List.all_cons, hb]; simp), if_neg (by rw [hh, hasPrefix_one]; simp [h35]), if_neg (by rw [hh]; unfold blankL; simp [hb]), hc]
  rw [if_pos (by simp only [Bool.true_and]; exact hk)]
theorem stuff_no {s : List UInt8} (h : 10 ∉ s) : 10 ∉ stuffL s := by
  unfold stuffL; split
  · simp only [List.mem_cons, not_or]; exact ⟨by decide, h⟩
  · exact h
theorem more_kind {s : List UInt8} (h : 10 ∉ s) : kindL (32 :: stuffL s) = 3 := by
  have hm : 10 ∉ (32 :: stuffL s : List UInt8) := by
    simp only [List.mem_cons, not_or]; exact ⟨by decide, stuff_no h⟩
  have hall : (32 :: stuffL s : List UInt8).all blankC = false := by
    rw [List.all_cons]
    unfold stuffL
    split
    · simp [blankC]
    · rename_i h2
      simp only [Bool.or_eq_true, not_or] at h2
      rw [show s.all blankC = false by simpa using h2.1]; simp
  unfold kindL
  rw [if_neg hm, if_neg (by rw [hall]; decide), if_neg (by rw [hasPrefix_one]; simp), if_pos (by unfold blankL; simp [blankC])]
theorem stuff_back (s : List UInt8) : Lib.trimPrefix (stuffL s) [46] = s := by
  unfold stuffL Lib.trimPrefix
  split
  · rename_i h
    rw [if_pos (by rw [hasPrefix_one]; simp)]; rfl
  · rename_i h
    simp only [Bool.or_eq_true, not_or] at h
    rw [if_neg h.2]
theorem first_back {p : List UInt8} : Lib.trimPrefix (if p = [] then [] else 32 :: p) [32] = p := by
  unfold Lib.trimPrefix
  split
  · rename_i h; subst h; rfl
  · rw [if_pos (by rw [hasPrefix_one]; simp)]; rfl
/-- The field that lines say, and why they say none. -/
def valueL (l0 : List UInt8) (rest : List (List UInt8)) : List UInt8 := Lib.join (Lib.trimPrefix (Lib.cut l0 [58]).2.1 [32] :: rest.map fun s => Lib.trimPrefix (s.drop 1) [46]) [10]
def unfoldL : List (List UInt8) → (List UInt8 × List UInt8) × Int
  | [] => (([], []), 2)
  | l0 :: rest => if kindL l0 ≠ 4 ∨ (rest.any fun s => !decide (kindL s = 3)) = true then (([], []), 2) else if 1000 < (valueL l0 rest).length then (([], []), 6) else (((Lib.cut l0 [58]).1, valueL l0 rest), 0)
theorem unfold_lines {k v : List UInt8} (hk : keyOk k = true) (hv : v.length ≤ 1000) : unfoldL (linesL k v) = ((k, v), 0) := by
  have hno := parts_no v
  obtain ⟨p, ps, e⟩ : ∃ p ps, partsL v = p :: ps := by
    cases h : partsL v with
    | nil => exact absurd h (split_ne v [10])
    | cons p ps => exact ⟨p, ps, rfl⟩
  have hj := parts_join v
  rw [e] at hno hj
  obtain ⟨h1, h2⟩ := first_kind hk (hno p (by simp))
  unfold linesL
  rw [e]
  show unfoldL (firstL k p :: ps.map fun s => 32 :: stuffL s) = _
  have hany : ((ps.map fun s => 32 :: stuffL s).any fun s => !decide (kindL s = 3)) = false := by
    rw [List.any_eq_false]
    intro s hs
    obtain ⟨q, hq, rfl⟩ := List.mem_map.1 hs
    rw [more_kind (hno q (by simp [hq]))]; simp
  have hval : valueL (firstL k p) (ps.map fun s => 32 :: stuffL s) = v := by
    unfold valueL
    rw [h2]
    show Lib.join (Lib.trimPrefix (if p = [] then [] else 32 :: p) [32] :: _) _ = v
    rw [first_back, List.map_map]
    have : (ps.map ((fun s => Lib.trimPrefix (s.drop 1) [46]) ∘ fun s => 32 :: stuffL s)) = ps := by
      conv => rhs; rw [← List.map_id ps]
      exact List.map_congr_left fun s _ => stuff_back s
    rw [this, hj]
  show (if kindL (firstL k p) ≠ 4 ∨ ((ps.map fun s => 32 :: stuffL s).any fun s => !decide (kindL s = 3)) = true then ((([] : List UInt8), ([] : List UInt8)), (2 : Int)) else if 1000 < (valueL (firstL k p) (ps.map fun s => 32 :: stuffL s)).length then (([], []), 6) else (((Lib.cut (firstL k p) [58]).1, valueL (firstL k p) (ps.map fun s => 32 :: stuffL s)), 0)) = _
  rw [if_neg (by rw [hany]; simp [h1]), hval, if_neg (by omega), h2]
end Q
end Ab
end Go.Proofs.YthlfbpmbkcoclaaDoor
namespace Go.Proofs.YthlfbpmbkcoclaaDoor
open Go.RowKit
namespace Ab
set_option maxRecDepth 100000
namespace Q

def checkF (f : Fld) : Int := if keyOk f.1.data.toList = true then (if 1000 < f.2.size then 6 else 0) else 5
def errN (n : Int) : C := .lit (.iface 35 (.int .i64 n))
def errA (n : Int) : C := if n = 0 then .lit .nilIface else errN n
theorem errA_eq {n m : Int} (h : n = m) : A.one (errA n) = A.one (errA m) := by rw [h]
theorem check_c (f : Fld) (hk : f.1.size ≤ 1000000000) : ACall Tryd.prog 43 [.agg (toL rFld f)] (.one (errA (checkF f))) := by
  refine acall_of (rs := [2]) Tryd.func43 rfl rfl rfl teOk rfl ?_
  refine acode_seq ?_
  refine acode_region ?_
  refine acode_seq ?_
  refine acode_block ?_
  refine acode_seq ?_
  refine acode_region ?_
  refine Or.inl ?_
  refine And.intro (rfl) ?_
  refine Exists.intro _ (And.intro (key_c _ hk) ?_)
  refine acode_cond rfl (fun h3 => ?_) (fun h3 => ?_)
  · try simp only [Bool.not_eq_true'] at h3
    try simp only [Int.toNat_natCast, dflt_sl, dflt_st, dflt_str, dflt_int, dflt_bool] at h3
    refine acode_seq ?_
    refine acode_region ?_
    refine acode_ret ?_
    exact errA_eq (n := 5) (by unfold checkF; rw [if_neg (by rw [h3]; decide)])
  · try simp only [Bool.not_eq_false'] at h3
    try simp only [Int.toNat_natCast, dflt_sl, dflt_st, dflt_str, dflt_int, dflt_bool] at h3
    refine acode_seq ?_
    refine acode_region ?_
    refine acode_cond rfl (fun h9 => ?_) (fun h9 => ?_)
    · try simp only [decide_eq_true_eq] at h9
      try simp only [Int.toNat_natCast, dflt_sl, dflt_st, dflt_str, dflt_int, dflt_bool] at h9
      refine acode_seq ?_
      refine acode_region ?_
      refine acode_ret ?_
      exact errA_eq (n := 6) (by unfold checkF; rw [if_pos h3, if_pos (by omega)])
    · try simp only [decide_eq_false_iff_not, Int.not_lt] at h9
      try simp only [Int.toNat_natCast, dflt_sl, dflt_st, dflt_str, dflt_int, dflt_bool] at h9
      refine acode_skip ?_
      refine acode_seq ?_
      refine acode_region ?_
      refine acode_ret ?_
      exact errA_eq (n := 0) (by unfold checkF; rw [if_pos h3, if_neg (by omega)])
theorem check_cases (f : Fld) : checkF f = 5 ∨ checkF f = 6 ∨ checkF f = 0 := by
  unfold checkF; split <;> (try split) <;> simp
theorem check_v (f : Fld) (n : Int) (hk : f.1.size ≤ 1000000000) (h : checkF f = n) : ACall Tryd.prog 43 [.agg (toL rFld f)] (.one (errA n)) := by
  subst h; exact check_c f hk
theorem stuffed_c (s : ByteArray) (hs : s.size ≤ 1000000) : ACall Tryd.prog 83 [is s] (is (bytes (stuffL s.data.toList))) := by
  have hz := size_list s
  have he : (⟨(Lib.trimS s.data.toList [32, 9]).toArray⟩ : ByteArray) = ⟨#[]⟩ ↔ s.data.toList.all blankC = true := by
    rw [emp, ← trim_nil]
    show (bytes (Lib.trimS s.data.toList [32, 9])).data.toList.length = 0 ↔ _
    rw [bytes_list]; exact ⟨List.eq_nil_of_length_eq_zero, fun h => by rw [h]; rfl⟩
  refine acall_of (rs := [2]) Tryd.func83 rfl rfl rfl teOk rfl ?_
  refine acode_seq ?_
  refine acode_region ?_
  refine acode_seq ?_
  refine acode_seq ?_
  refine acode_region ?_
  refine Or.inl ?_
  refine And.intro (rfl) ?_
  refine Exists.intro _ (And.intro (trimS_c _ _ (by decide) (by decide) (by omega)) ?_)
  refine And.intro (fun h => trivial) ?_
  refine And.intro (rfl) ?_
  refine Exists.intro _ (And.intro (fun h => ⟨⟨⟨h, trivial⟩, trivial⟩, hasPrefix_c _ _⟩) ?_)
  refine And.intro (by first | (intro h; rw [h]; rfl) | (intro h; cases h)) ?_
  refine acode_cond rfl (fun h9 => ?_) (fun h9 => ?_)
  · try simp only [decide_eq_true_eq, Bool.or_eq_true] at h9
    try simp only [Int.toNat_natCast, dflt_sl, dflt_st, dflt_str, dflt_int, dflt_bool] at h9
    have hq : (s.data.toList.all blankC || Lib.hasPrefix s.data.toList [46]) = true := by rw [Bool.or_eq_true]; exact h9.imp he.1 id
    refine acode_seq ?_
    refine acode_region ?_
    refine And.intro (by (have hk0 : ByteArray.size { data := #[46] } = 1 := rfl; first | (unfold maxLen; omega) | (simp only [ByteArray.size_append]; omega) | (unfold maxLen; (try simp only [ByteArray.size_append]); omega))) ?_
    refine acode_ret ?_
    refine is_eq ?_
    unfold stuffL
    rw [if_pos hq, show (46 :: s.data.toList) = [46] ++ s.data.toList from rfl, bytes_app, show bytes s.data.toList = s from bytes_ls s]
    rfl
  · try simp only [decide_eq_false_iff_not, Bool.or_eq_false_iff] at h9
    try simp only [Int.toNat_natCast, dflt_sl, dflt_st, dflt_str, dflt_int, dflt_bool] at h9
    have hq : ¬ (s.data.toList.all blankC || Lib.hasPrefix s.data.toList [46]) = true := by rw [Bool.or_eq_true]; exact fun e => e.elim (fun e => h9.1 (he.2 e)) (fun e => by rw [h9.2] at e; cases e)
    refine acode_skip ?_
    refine acode_seq ?_
    refine acode_region ?_
    refine acode_ret ?_
    refine is_eq ?_
    unfold stuffL
    rw [if_neg hq]
    exact (bytes_ls s).symm

theorem cut_v (s p : ByteArray) (l : List UInt8) (c : List UInt8 × List UInt8 × Bool) (hl : p.data.toList = l) (hc : Lib.cut s.data.toList l = c) (hs : s.size < 4294967281) : ACall Tryd.prog 84 [is s, is p] (.tup [(false, [.lit (.string (bytes c.1))]), (false, [.lit (.string (bytes c.2.1))]), (false, [.lit (.bool c.2.2)])]) := by
  subst hl hc; exact cut_c s p hs
theorem cut_len (l sep : List UInt8) : (Lib.cut l sep).1.length ≤ l.length ∧ (Lib.cut l sep).2.1.length ≤ l.length := by
  unfold Lib.cut
  split
  · simp only [List.length_take, List.length_drop]; omega
  · exact ⟨Nat.le_refl _, Nat.zero_le _⟩
theorem kind_c (s : ByteArray) (hs : s.size ≤ 1000000000) : ACall Tryd.prog 41 [is s] (ii .i64 (kindL s.data.toList)) := by
  have hz := size_list s
  obtain ⟨c, hc⟩ : ∃ c, Lib.cut s.data.toList [58] = c := ⟨_, rfl⟩
  have hcl : (bytes c.1).size ≤ 1000000000 := by rw [bytes_size, ← hc]; have := (cut_len s.data.toList [58]).1; omega
  have he : (⟨(Lib.trimS s.data.toList [32, 9]).toArray⟩ : ByteArray) = ⟨#[]⟩ ↔ s.data.toList.all blankC = true := by
    rw [emp, ← trim_nil]
    show (bytes (Lib.trimS s.data.toList [32, 9])).data.toList.length = 0 ↔ _
    rw [bytes_list]; exact ⟨List.eq_nil_of_length_eq_zero, fun h => by rw [h]; rfl⟩
  have hcon : Lib.contains s.data.toList [10] = decide (10 ∈ s.data.toList) := contains_one _ _
  refine acall_of (rs := [2]) Tryd.func41 rfl rfl rfl teOk rfl ?_
  refine acode_seq ?_
  refine acode_region ?_
  refine acode_seq ?_
  refine acode_block ?_
  refine acode_seq ?_
  refine acode_region ?_
  refine Or.inl ?_
  refine And.intro (rfl) ?_
  refine Exists.intro _ (And.intro (contains_c _ _ (by omega)) ?_)
  refine acode_cond rfl (fun h6 => ?_) (fun h6 => ?_)
  · skip
    have hm : 10 ∈ s.data.toList := of_decide_eq_true (hcon ▸ h6)
    refine acode_seq ?_
    refine acode_region ?_
    refine acode_ret ?_
    refine ii_eq ?_
    unfold kindL
    rw [if_pos hm]
  · skip
    have hm : 10 ∉ s.data.toList := of_decide_eq_false (hcon ▸ h6)
    refine acode_seq ?_
    refine acode_region ?_
    refine Or.inl ?_
    refine And.intro (rfl) ?_
    refine Exists.intro _ (And.intro (trimS_c _ _ (by decide) (by decide) (by omega)) ?_)
    refine acode_cond rfl (fun h9 => ?_) (fun h9 => ?_)
    · try simp only [decide_eq_true_eq] at h9
      try simp only [Int.toNat_natCast, dflt_sl, dflt_st, dflt_str, dflt_int, dflt_bool] at h9
      rw [he] at h9
      refine acode_seq ?_
      refine acode_region ?_
      refine acode_ret ?_
      refine ii_eq ?_
      unfold kindL
      rw [if_neg hm, if_pos h9]
    · try simp only [decide_eq_false_iff_not] at h9
      try simp only [Int.toNat_natCast, dflt_sl, dflt_st, dflt_str, dflt_int, dflt_bool] at h9
      rw [he] at h9
      refine acode_seq ?_
      refine acode_region ?_
      refine Or.inl ?_
      refine And.intro (rfl) ?_
      refine Exists.intro _ (And.intro (hasPrefix_c _ _) ?_)
      refine acode_cond rfl (fun h13 => ?_) (fun h13 => ?_)
      · skip
        refine acode_seq ?_
        refine acode_region ?_
        refine acode_ret ?_
        refine ii_eq ?_
        unfold kindL
        rw [if_neg hm, if_neg h9, if_pos h13]
      · skip
        refine acode_seq ?_
        refine acode_region ?_
        refine Or.inl ?_
        refine And.intro (rfl) ?_
        refine Exists.intro _ (And.intro (blank_c _ hs) ?_)
        refine acode_cond rfl (fun h16 => ?_) (fun h16 => ?_)
        · try simp only [decide_eq_true_eq, decide_eq_false_iff_not, Bool.and_eq_true, Bool.not_eq_true', Bool.not_eq_false', Bool.or_eq_false_iff, Bool.or_eq_true, Bool.and_eq_false_iff, Int.not_lt, Int.not_le] at h16
          try simp only [Int.toNat_natCast, dflt_sl, dflt_st, dflt_str, dflt_int, dflt_bool] at h16
          refine acode_seq ?_
          refine acode_region ?_
          refine acode_ret ?_
          refine ii_eq ?_
          unfold kindL
          rw [if_neg hm, if_neg h9, if_neg (by rw [Bool.not_eq_true]; exact h13), if_pos h16]
        · try simp only [decide_eq_true_eq, decide_eq_false_iff_not, Bool.and_eq_true, Bool.not_eq_true', Bool.not_eq_false', Bool.or_eq_false_iff, Bool.or_eq_true, Bool.and_eq_false_iff, Int.not_lt, Int.not_le] at h16
          try simp only [Int.toNat_natCast, dflt_sl, dflt_st, dflt_str, dflt_int, dflt_bool] at h16
          refine acode_skip ?_
          refine acode_seq ?_
          refine acode_seq ?_
          refine acode_region ?_
          refine Or.inl ?_
          refine And.intro (rfl) ?_
          refine Exists.intro _ (And.intro (cut_v _ _ [58] c rfl hc (by omega)) ?_)
          refine acode_seq ?_
          refine acode_region ?_
          refine And.intro (fun h => trivial) ?_
          refine And.intro (rfl) ?_
          refine Exists.intro _ (And.intro (fun h => ⟨⟨⟨h, trivial⟩, trivial⟩, key_c _ hcl⟩) ?_)
          refine And.intro (by exact fun h => h) ?_
          refine acode_cond rfl (fun h29 => ?_) (fun h29 => ?_)
          · try simp only [Bool.and_eq_true] at h29
            try simp only [Int.toNat_natCast, dflt_sl, dflt_st, dflt_str, dflt_int, dflt_bool] at h29
            refine acode_seq ?_
            refine acode_region ?_
            refine acode_ret ?_
            refine ii_eq ?_
            unfold kindL
            rw [if_neg hm, if_neg h9, if_neg (by rw [Bool.not_eq_true]; exact h13), if_neg (by rw [Bool.not_eq_true]; exact h16), hc, if_pos (by rw [Bool.and_eq_true]; rw [bytes_list] at h29; exact h29)]
          · try simp only [Bool.and_eq_false_iff] at h29
            try simp only [Int.toNat_natCast, dflt_sl, dflt_st, dflt_str, dflt_int, dflt_bool] at h29
            refine acode_skip ?_
            refine acode_seq ?_
            refine acode_region ?_
            refine acode_ret ?_
            refine ii_eq ?_
            unfold kindL
            rw [if_neg hm, if_neg h9, if_neg (by rw [Bool.not_eq_true]; exact h13), if_neg (by rw [Bool.not_eq_true]; exact h16), hc, if_neg (by rw [Bool.not_eq_true, Bool.and_eq_false_iff]; rw [bytes_list] at h29; exact h29)]
theorem kind_v (s : ByteArray) (l : List UInt8) (k : Int) (hl : s.data.toList = l) (hk : kindL l = k) (hs : l.length ≤ 1000000000) : ACall Tryd.prog 41 [is s] (ii .i64 k) := by
  subst hl hk; exact kind_c s (by rw [size_list]; exact hs)
/-- A line's key and what stands behind the colon. -/
def cutL (l : List UInt8) : List UInt8 × List UInt8 × Bool := if kindL l = 4 then Lib.cut l [58] else ([], [], false)
def cutA (c : List UInt8 × List UInt8 × Bool) : A := .tup [(false, [.lit (.string (bytes c.1))]), (false, [.lit (.string (bytes c.2.1))]), (false, [.lit (.bool c.2.2)])]
theorem cutA_eq {c c' : List UInt8 × List UInt8 × Bool} (h : c = c') : cutA c = cutA c' := by rw [h]
theorem lcut_c (s : ByteArray) (hs : s.size ≤ 1000000000) : ACall Tryd.prog 40 [is s] (cutA (cutL s.data.toList)) := by
  refine acall_of (rs := [2, 3, 4]) Tryd.func40 rfl rfl rfl teOk rfl ?_
  refine acode_seq ?_
  refine acode_region ?_
  refine acode_seq ?_
  refine acode_seq ?_
  refine acode_region ?_
  refine Or.inl ?_
  refine And.intro (rfl) ?_
  refine Exists.intro _ (And.intro (kind_c s hs) ?_)
  refine acode_cond rfl (fun h7 => ?_) (fun h7 => ?_)
  · try simp only [decide_eq_false_iff_not, Bool.not_eq_true'] at h7
    try simp only [Int.toNat_natCast, dflt_sl, dflt_st, dflt_str, dflt_int, dflt_bool] at h7
    refine acode_seq ?_
    refine acode_region ?_
    refine acode_ret ?_
    exact cutA_eq (c := ([], [], false)) (by unfold cutL; rw [if_neg h7])
  · try simp only [decide_eq_true_eq, Bool.not_eq_false'] at h7
    try simp only [Int.toNat_natCast, dflt_sl, dflt_st, dflt_str, dflt_int, dflt_bool] at h7
    refine acode_skip ?_
    refine acode_seq ?_
    refine acode_region ?_
    refine Or.inl ?_
    refine And.intro (rfl) ?_
    refine Exists.intro _ (And.intro (cut_v _ _ [58] _ rfl rfl (by omega)) ?_)
    refine acode_ret ?_
    exact cutA_eq (c := Lib.cut s.data.toList [58]) (by unfold cutL; rw [if_pos h7])
end Q
end Ab
end Go.Proofs.YthlfbpmbkcoclaaDoor
namespace Go.Proofs.YthlfbpmbkcoclaaDoor
open Go.RowKit
namespace Ab
set_option maxRecDepth 100000
namespace Q

def lineB (key v : ByteArray) : List ByteArray := (linesL key.data.toList v.data.toList).map bytes
theorem check_ok {f : Fld} (h : checkF f = 0) : keyOk f.1.data.toList = true ∧ f.2.size ≤ 1000 ∧ f.1.size ≤ 32 := by
  unfold checkF at h
  split at h
  · rename_i hk
    split at h
    · cases h
    · refine ⟨hk, by omega, ?_⟩
      have := hk
      unfold keyOk at this
      simp only [Bool.and_eq_true, decide_eq_true_eq] at this
      rw [size_list]; exact this.1.1.1.1.2
  · cases h
theorem stuff_len (s : List UInt8) : (stuffL s).length ≤ s.length + 1 := by
  unfold stuffL; split <;> simp
def linesA (f : Fld) : A := if checkF f = 0 then .tup [(false, [.sl .str (lineB f.1 f.2)]), (false, [.lit .nilIface])] else .tup [(false, [.sl .str []]), (false, [errN (checkF f)])]
theorem linesA_bad {f : Fld} {n : Int} (h : checkF f = n) (hn : n ≠ 0) : linesA f = .tup [(false, [.sl .str []]), (false, [errN n])] := by
  unfold linesA; rw [if_neg (by rw [h]; exact hn), h]
theorem linesA_ok {f : Fld} (h : checkF f = 0) : linesA f = .tup [(false, [.sl .str (lineB f.1 f.2)]), (false, [.lit .nilIface])] := by
  unfold linesA; rw [if_pos h]
theorem stuffed_v (s : ByteArray) (l : List UInt8) (hl : s.data.toList = l) (hs : l.length ≤ 1000000) : ACall Tryd.prog 83 [is s] (is (bytes (stuffL l))) := by
  subst hl; exact stuffed_c s (by rw [size_list]; exact hs)
theorem first_b (k p : ByteArray) (h : ¬ p = ⟨#[]⟩) : (k ++ (⟨#[58]⟩ : ByteArray)) ++ ((⟨#[32]⟩ : ByteArray) ++ p) = bytes (firstL k.data.toList p.data.toList) := by
  have hp : p.data.toList ≠ [] := fun e => h (emp.2 (by rw [e]; rfl))
  unfold firstL
  rw [if_neg hp, bytes_app, bytes_app, show (32 :: p.data.toList) = [32] ++ p.data.toList from rfl, bytes_app, show bytes k.data.toList = k from bytes_ls k, show bytes p.data.toList = p from bytes_ls p]
  rfl
theorem first_e (k p : ByteArray) (h : p = ⟨#[]⟩) : k ++ (⟨#[58]⟩ : ByteArray) = bytes (firstL k.data.toList p.data.toList) := by
  have hp : p.data.toList = [] := by rw [h]
  unfold firstL
  rw [if_pos hp, List.append_nil, bytes_app, show bytes k.data.toList = k from bytes_ls k]; rfl
theorem tupS_eq {xs ys : List ByteArray} (h : xs = ys) : A.tup [(false, [.sl .str xs]), (false, [.lit .nilIface])] = A.tup [(false, [.sl .str ys]), (false, [.lit .nilIface])] := by rw [h]
theorem lineB_eq {key v : ByteArray} {ws : List ByteArray} (hsp : ws.map ls = partsL v.data.toList) (hpos : 0 < ws.length) : bytes (firstL key.data.toList (ws.getD 0 ByteArray.empty).data.toList) :: (ws.drop 1).map (fun s => bytes (32 :: stuffL s.data.toList)) = lineB key v := by
  unfold lineB linesL
  rw [← hsp]
  cases ws with
  | nil => cases hpos
  | cons w r => simp [ls]
theorem lines_c (f : Fld) (hk : f.1.size ≤ 1000000) (hv : f.2.size ≤ 1000000) : ACall Tryd.prog 39 [.agg (toL rFld f)] (linesA f) := by
  obtain ⟨ws, hws⟩ : ∃ ws, Lib.splitB ⟨#[10]⟩ 0 (Lib.countB f.2 ⟨#[10]⟩) f.2 = ws := ⟨_, rfl⟩
  have hsz : ∀ x ∈ ws, x.size ≤ 1000000 := fun x hx => Nat.le_trans (split_size _ _ _ x (hws ▸ hx)) hv
  have hlen : ws.length ≤ f.2.size + 1 := by rw [← hws]; exact split_len _ _ (by decide)
  have hsp : ws.map ls = partsL f.2.data.toList := by rw [← hws]; exact split_ls _ _
  have hpos : 0 < ws.length := by
    have := split_ne f.2.data.toList [10]
    rw [← List.length_map (f := ls), hsp]
    exact List.length_pos_iff.2 this
  refine acall_of (rs := [2, 3]) Tryd.func39 rfl rfl rfl teOk rfl ?_
  refine acode_seq ?_
  refine acode_region ?_
  refine acode_seq ?_
  refine acode_seq ?_
  rcases check_cases f with hc|hc|hc
  · refine acode_region ?_
    refine Or.inl ?_
    refine And.intro (rfl) ?_
    refine Exists.intro _ (And.intro ((check_v f 5 (by omega) hc : ACall _ _ _ (.one (errN 5)))) ?_)
    refine acode_seq ?_
    refine acode_region ?_
    refine acode_cond rfl (fun h12 => ?_) (fun h12 => ?_)
    · skip
      refine acode_seq ?_
      refine acode_region ?_
      refine acode_nilvec 2 9 .str rfl ?_
      refine acode_ret ?_
      rw [linesA_bad hc (by decide)]
      rfl
    · try simp only [decide_eq_true_eq, decide_eq_false_iff_not, Bool.and_eq_true, Bool.not_eq_true', Bool.not_eq_false', Bool.or_eq_false_iff, Bool.or_eq_true, Bool.and_eq_false_iff, Int.not_lt, Int.not_le] at h12
      try simp only [Int.toNat_natCast, dflt_sl, dflt_st, dflt_str, dflt_int, dflt_bool] at h12
      cases h12
  · refine acode_region ?_
    refine Or.inl ?_
    refine And.intro (rfl) ?_
    refine Exists.intro _ (And.intro ((check_v f 6 (by omega) hc : ACall _ _ _ (.one (errN 6)))) ?_)
    refine acode_seq ?_
    refine acode_region ?_
    refine acode_cond rfl (fun h12 => ?_) (fun h12 => ?_)
    · skip
      refine acode_seq ?_
      refine acode_region ?_
      refine acode_nilvec 2 9 .str rfl ?_
      refine acode_ret ?_
      rw [linesA_bad hc (by decide)]
      rfl
    · try simp only [decide_eq_true_eq, decide_eq_false_iff_not, Bool.and_eq_true, Bool.not_eq_true', Bool.not_eq_false', Bool.or_eq_false_iff, Bool.or_eq_true, Bool.and_eq_false_iff, Int.not_lt, Int.not_le] at h12
      try simp only [Int.toNat_natCast, dflt_sl, dflt_st, dflt_str, dflt_int, dflt_bool] at h12
      cases h12
  · refine acode_region ?_
    refine Or.inl ?_
    refine And.intro (rfl) ?_
    refine Exists.intro _ (And.intro ((check_v f 0 (by omega) hc : ACall _ _ _ (.one (.lit .nilIface)))) ?_)
    refine acode_seq ?_
    refine acode_region ?_
    refine acode_cond rfl (fun h12 => ?_) (fun h12 => ?_)
    · try simp only [Bool.not_eq_true'] at h12
      try simp only [Int.toNat_natCast, dflt_sl, dflt_st, dflt_str, dflt_int, dflt_bool] at h12
      cases h12
    · try simp only [Bool.not_eq_false'] at h12
      try simp only [Int.toNat_natCast, dflt_sl, dflt_st, dflt_str, dflt_int, dflt_bool] at h12
      have hdl : (ws.drop 1).length = ws.length - 1 := List.length_drop
      obtain ⟨hko, hv1, hk1⟩ := check_ok hc
      obtain ⟨p0, hp0⟩ : ∃ p, ws.getD 0 ByteArray.empty = p := ⟨_, rfl⟩
      have hp0s : p0.size ≤ 1000000 := by rw [← hp0]; exact hsz _ (getD_mem hpos _)
      refine acode_skip ?_
      refine acode_seq ?_
      refine acode_region ?_
      refine Or.inl ?_
      refine And.intro (rfl) ?_
      refine Exists.intro _ (And.intro (split_v f.2 ⟨#[10]⟩ ws hws (by omega) (by decide)) ?_)
      refine acode_seq ?_
      refine acode_region ?_
      refine And.intro (by (have hk0 : ByteArray.size { data := #[58] } = 1 := rfl; first | (unfold maxLen; omega) | (simp only [ByteArray.size_append]; omega) | (unfold maxLen; (try simp only [ByteArray.size_append]); omega))) ?_
      refine acode_cut (fun (u : Unit) => True) (fun (u : Unit) => [(5, .one (.sl .str ws)), (6, .one (.vec 1))]) (fun (u : Unit) => [(1, .vec 9 .str [bytes (firstL f.1.data.toList p0.data.toList)])]) 2 ?_ ?_
      · refine acode_seq ?_
        refine acode_region ?_
        refine And.intro (by first | omega | assumption | decide | (simp only [Int.toNat_natCast, dflt_sl, dflt_st, dflt_str, dflt_int, dflt_bool]; omega) | (simp <;> omega)) ?_
        refine acode_cond rfl (fun h24 => ?_) (fun h24 => ?_)
        · try simp only [decide_eq_false_iff_not, Bool.not_eq_true'] at h24
          try simp only [dflt_str] at h24
          have hq : (ws.getD (Int.toNat 0) (Rd.str).dflt).size ≤ 1000000 := hsz _ (getD_mem hpos _)
          have hk2 : ([f.1 ++ (⟨#[58]⟩ : ByteArray)].getD (Int.toNat 0) (Rd.str).dflt).size ≤ 1000 := by show (f.1 ++ (⟨#[58]⟩ : ByteArray)).size ≤ _; rw [ByteArray.size_append, show ByteArray.size ⟨#[58]⟩ = 1 from rfl]; omega
          refine acode_ord rfl ?_
          refine aord_light 0 rfl rfl rfl (by kernel_rfl) ?_
          refine aord_light 1 rfl rfl rfl (by kernel_rfl) ?_
          refine And.intro (by first | omega | assumption | decide | (simp only [Int.toNat_natCast, dflt_sl, dflt_st, dflt_str, dflt_int, dflt_bool]; omega) | (simp <;> omega)) ?_
          refine aord_light 3 rfl rfl rfl (by kernel_rfl) ?_
          refine aord_light 4 rfl rfl rfl (by kernel_rfl) ?_
          refine And.intro (by first | omega | assumption | decide | (simp only [Int.toNat_natCast, dflt_sl, dflt_st, dflt_str, dflt_int, dflt_bool]; omega) | (simp <;> omega)) ?_
          refine aord_all [2, 5] (by kernel_rfl) rfl ?_
          refine And.intro ?_ ?_
          · refine And.intro (by exact Nat.zero_lt_one) ?_
            refine aord_all [5] (by kernel_rfl) rfl ?_
            refine aord_light 6 rfl rfl rfl (by kernel_rfl) ?_
            refine And.intro (by (have hk0 : ByteArray.size { data := #[32] } = 1 := rfl; first | (unfold maxLen; omega) | (simp only [ByteArray.size_append]; omega) | (unfold maxLen; (try simp only [ByteArray.size_append]); omega))) ?_
            refine aord_light 7 rfl rfl rfl (by kernel_rfl) ?_
            refine And.intro (by (have hk0 : ByteArray.size { data := #[32] } = 1 := rfl; first | (unfold maxLen; omega) | (simp only [ByteArray.size_append]; omega) | (unfold maxLen; (try simp only [ByteArray.size_append]); omega))) ?_
            refine aord_light 8 rfl rfl rfl (by kernel_rfl) ?_
            refine And.intro (by first | omega | assumption | decide | (simp only [Int.toNat_natCast, dflt_sl, dflt_st, dflt_str, dflt_int, dflt_bool]; omega) | (simp <;> omega)) ?_
            refine aord_all [9] (by kernel_rfl) rfl ?_
            refine And.intro (by exact Nat.zero_lt_one) ?_
            refine aord_done (by kernel_rfl) ?_
            exact ⟨(), trivial, le_of ⟨rfl, rfl⟩ (vec_eq (congrArg (fun x => [x]) (by rw [← hp0]; exact first_b _ _ h24))) rfl⟩
          · refine aord_light 6 rfl rfl rfl (by kernel_rfl) ?_
            refine And.intro (by (have hk0 : ByteArray.size { data := #[32] } = 1 := rfl; first | (unfold maxLen; omega) | (simp only [ByteArray.size_append]; omega) | (unfold maxLen; (try simp only [ByteArray.size_append]); omega))) ?_
            refine aord_all [2] (by kernel_rfl) rfl ?_
            refine And.intro (by exact Nat.zero_lt_one) ?_
            refine aord_light 7 rfl rfl rfl (by kernel_rfl) ?_
            refine And.intro (by (have hk0 : ByteArray.size { data := #[32] } = 1 := rfl; first | (unfold maxLen; omega) | (simp only [ByteArray.size_append]; omega) | (unfold maxLen; (try simp only [ByteArray.size_append]); omega))) ?_
            refine aord_light 8 rfl rfl rfl (by kernel_rfl) ?_
            refine And.intro (by first | omega | assumption | decide | (simp only [Int.toNat_natCast, dflt_sl, dflt_st, dflt_str, dflt_int, dflt_bool]; omega) | (simp <;> omega)) ?_
            refine aord_all [9] (by kernel_rfl) rfl ?_
            refine And.intro (by exact Nat.zero_lt_one) ?_
            refine aord_done (by kernel_rfl) ?_
            exact ⟨(), trivial, le_of ⟨rfl, rfl⟩ (vec_eq (congrArg (fun x => [x]) (by rw [← hp0]; exact first_b _ _ h24))) rfl⟩
        · try simp only [decide_eq_true_eq, Bool.not_eq_false'] at h24
          try simp only [dflt_str] at h24
          refine acode_skip ?_
          exact ⟨(), trivial, le_of ⟨rfl, rfl⟩ (vec_eq (congrArg (fun x => [x]) (by rw [← hp0]; exact first_e _ _ h24))) rfl⟩
      · intro u hcut8
        refine acode_seq ?_
        refine acode_seq ?_
        refine acode_region ?_
        refine And.intro (by first | omega | assumption | decide | (simp only [Int.toNat_natCast, dflt_sl, dflt_st, dflt_str, dflt_int, dflt_bool]; omega) | (simp <;> omega)) ?_
        intro l8_2
        try simp only [Int.toNat_natCast, dflt_sl, dflt_st, dflt_str, dflt_int, dflt_bool] at l8_2
        refine acode_block ?_
        refine acode_loopP (fun (i : Nat) => i ≤ (ws.drop 1).length) (fun (i : Nat) => [(6, .one (.vec 1)), (35, .one (.sl .str (ws.drop 1))), (36, ii .i64 (ws.drop 1).length), (37, ii .i64 i)]) (fun (i : Nat) => [(1, .vec 9 .str (bytes (firstL f.1.data.toList p0.data.toList) :: ((ws.drop 1).take i).map fun s => bytes (32 :: stuffL s.data.toList)))]) 2 (fun (i : Nat) => (ws.drop 1).length - i) 0 (Nat.zero_le _) (le_of ⟨rfl, (sl_eq rfl), (ii_eq rfl), rfl⟩ rfl rfl) ?_
        intro i hI0
        have hi := hI0
        refine acode_seq ?_
        refine acode_region ?_
        refine acode_seq ?_
        refine acode_cond rfl (fun h38 => ?_) (fun h38 => ?_)
        · try simp only [decide_eq_true_eq] at h38
          try simp only [Int.toNat_natCast, dflt_sl, dflt_st, dflt_str, dflt_int, dflt_bool] at h38
          have hlt : i < (ws.drop 1).length := by omega
          have hm : ((ws.drop 1).getD i ByteArray.empty).size ≤ 1000000 := hsz _ (List.mem_of_mem_drop (getD_mem hlt _))
          have hst : (bytes (stuffL ((ws.drop 1).getD i ByteArray.empty).data.toList)).size ≤ 1000001 := by rw [bytes_size]; have := stuff_len ((ws.drop 1).getD i ByteArray.empty).data.toList; rw [size_list] at hm; omega
          refine acode_skip ?_
          refine acode_seq ?_
          refine acode_block ?_
          refine acode_seq ?_
          refine acode_region ?_
          refine And.intro (by first | omega | assumption | decide | (simp only [Int.toNat_natCast, dflt_sl, dflt_st, dflt_str, dflt_int, dflt_bool]; omega) | (simp <;> omega)) ?_
          refine acode_region ?_
          refine Or.inl ?_
          refine And.intro (rfl) ?_
          refine Exists.intro _ (And.intro (stuffed_v _ _ rfl (by rw [← size_list]; exact hm)) ?_)
          refine And.intro (by unfold maxLen; rw [show ByteArray.size ⟨#[32]⟩ = 1 from rfl, Int.toNat_natCast]; exact Nat.le_trans (Nat.add_le_add_left hst 1) (by decide)) ?_
          refine And.intro (by show (_ + 1) * 16 ≤ 140737488355328; rw [List.length_cons, List.length_map, List.length_take]; omega) ?_
          refine acode_region ?_
          refine And.intro (by first | omega | assumption | decide | (simp only [Int.toNat_natCast, dflt_sl, dflt_st, dflt_str, dflt_int, dflt_bool]; omega) | (simp <;> omega)) ?_
          exact ⟨i + 1, by omega, by first | omega | (simp <;> omega), le_of ⟨rfl, rfl, rfl, (ii_eq (by omega))⟩ (vec_eq (by rw [← map_snoc (fun s : ByteArray => bytes (32 :: stuffL s.data.toList)) ByteArray.empty hlt, ← List.cons_append, show bytes (32 :: stuffL ((ws.drop 1).getD i ByteArray.empty).data.toList) = bytes [32] ++ bytes (stuffL ((ws.drop 1).getD i ByteArray.empty).data.toList) from bytes_app [32] _]; rfl)) rfl⟩
        · try simp only [decide_eq_false_iff_not, Int.not_lt] at h38
          try simp only [Int.toNat_natCast, dflt_sl, dflt_st, dflt_str, dflt_int, dflt_bool] at h38
          refine acode_exit ?_
          refine acode_seq ?_
          refine acode_region ?_
          refine acode_ret ?_
          rw [linesA_ok hc]
          exact tupS_eq (by rw [List.take_of_length_le (by omega), ← lineB_eq hsp hpos, hp0])
end Q
end Ab
end Go.Proofs.YthlfbpmbkcoclaaDoor
namespace Go.Proofs.YthlfbpmbkcoclaaDoor
open Go.RowKit
namespace Ab
set_option maxRecDepth 100000
namespace Q
def endL (ls : List (List UInt8)) : List UInt8 := ls.flatMap fun s => s ++ [10]
def textL (f : Fld) : List UInt8 := endL (linesL f.1.data.toList f.2.data.toList)
def foldL (l : List Fld) : List UInt8 := l.flatMap textL
/-- Why the first field that isn't good isn't. -/
def badF (l : List Fld) : Int := match l with
  | [] => 0
  | f :: r => if checkF f = 0 then badF r else checkF f
theorem badF_ok : ∀ {l : List Fld}, (∀ f ∈ l, checkF f = 0) → badF l = 0
  | [], _ => rfl
  | f :: r, h => by unfold badF; rw [if_pos (h f (by simp)), badF_ok fun g hg => h g (by simp [hg])]
theorem badF_at : ∀ {l : List Fld} {i : Nat} (d : Fld), i < l.length → (∀ f ∈ l.take i, checkF f = 0) → checkF (l.getD i d) ≠ 0 → badF l = checkF (l.getD i d)
  | f :: r, 0, d, _, _, h => by unfold badF; rw [if_neg (by simpa using h)]; rfl
  | f :: r, i + 1, d, hi, ht, h => by
    unfold badF
    rw [if_pos (ht f (by simp)), badF_at d (by simpa using hi) (fun g hg => ht g (by simp [hg])) (by simpa using h)]; simp
theorem badF_zero : ∀ {l : List Fld}, badF l = 0 → ∀ f ∈ l, checkF f = 0
  | f :: r, h, g, hg => by
    unfold badF at h
    split at h
    · rename_i h0
      rcases List.mem_cons.1 hg with rfl | hg
      · exact h0
      · exact badF_zero h g hg
    · rename_i h0; exact absurd h h0
theorem endL_snoc (ps : List (List UInt8)) (k : Nat) (h : k < ps.length) : endL (ps.take (k + 1)) = endL (ps.take k) ++ (ps.getD k [] ++ [10]) := by
  rw [← take_snoc [] h]; simp [endL]
theorem foldL_snoc (l : List Fld) (i : Nat) (d : Fld) (h : i < l.length) : foldL (l.take (i + 1)) = foldL (l.take i) ++ textL (l.getD i d) := by
  rw [← take_snoc d h]; simp [foldL]
theorem flat_le {α : Type} (g : α → List UInt8) (B : Nat) : ∀ l : List α, (∀ x ∈ l, (g x).length ≤ B) → (l.flatMap g).length ≤ l.length * B
  | [], _ => by simp
  | x :: l, h => by
    rw [List.flatMap_cons, List.length_append, List.length_cons, Nat.succ_mul]
    have := h x (by simp)
    have := flat_le g B l fun y hy => h y (by simp [hy])
    omega
theorem line_len {k v : List UInt8} (hk : k.length ≤ 32) (hv : v.length ≤ 1000) : (linesL k v).length ≤ 2000 ∧ ∀ s ∈ linesL k v, s.length ≤ 2000 := by
  have hp : ∀ p ∈ partsL v, p.length ≤ v.length := fun p hp => split_mem hp
  have hl : (partsL v).length ≤ v.length + 1 := by
    have := split_len (bytes [10]) (bytes v) (by decide)
    have h2 := congrArg List.length (split_ls (bytes [10]) (bytes v))
    rw [List.length_map] at h2
    rw [h2] at this
    unfold ls at this
    rw [bytes_list, bytes_list, bytes_size] at this
    exact this
  refine ⟨?_, fun s hs => ?_⟩
  · unfold linesL; simp only [List.length_cons, List.length_map, List.length_drop]; omega
  · unfold linesL at hs
    rcases List.mem_cons.1 hs with rfl | hs
    · unfold firstL
      have h0 : ((partsL v).headD []).length ≤ v.length := by
        cases e : partsL v with
        | nil => exact absurd e (split_ne v [10])
        | cons p ps => rw [e] at hp; exact hp p (by simp)
      have h1 : (if (partsL v).headD [] = [] then [] else 32 :: (partsL v).headD [] : List UInt8).length ≤ ((partsL v).headD []).length + 1 := by split <;> simp
      simp only [List.length_append, List.length_cons, List.length_nil]
      omega
    · obtain ⟨q, hq, rfl⟩ := List.mem_map.1 hs
      have := stuff_len q
      have := hp q (List.mem_of_mem_drop hq)
      simp only [List.length_cons]; omega
theorem text_len {f : Fld} (h : checkF f = 0) : (textL f).length ≤ 5000000 ∧ ∀ k, (endL ((linesL f.1.data.toList f.2.data.toList).take k)).length ≤ 5000000 := by
  obtain ⟨_, h2, h3⟩ := check_ok h
  rw [size_list] at h2 h3
  obtain ⟨h4, h5⟩ := line_len h3 h2
  have : ∀ ps : List (List UInt8), ps.length ≤ 2000 → (∀ s ∈ ps, s.length ≤ 2000) → (endL ps).length ≤ 5000000 := fun ps hl hs => by
    have := flat_le (fun s : List UInt8 => s ++ [10]) 2001 ps (fun s h => by have := hs s h; simp; omega)
    unfold endL
    have : ps.length * 2001 ≤ 2000 * 2001 := Nat.mul_le_mul_right _ hl
    omega
  exact ⟨this _ h4 h5, fun k => this _ (by rw [List.length_take]; omega) fun s hs => h5 s (List.mem_of_mem_take hs)⟩
def foldA (l : List Fld) : A := if badF l = 0 then .tup [(false, [.lit (.string (bytes (foldL l)))]), (false, [.lit .nilIface])] else .tup [(false, [.lit (.string ⟨#[]⟩)]), (false, [errN (badF l)])]
theorem lineB_get {k v : ByteArray} {j : Nat} (h : j < (lineB k v).length) : (lineB k v).getD j ByteArray.empty = bytes ((linesL k.data.toList v.data.toList).getD j []) := by
  unfold lineB at *
  rw [List.length_map] at h
  rw [List.getD_eq_getElem?_getD, List.getElem?_map, List.getD_eq_getElem?_getD, List.getElem?_eq_getElem h]; rfl
theorem fold_c (l : List Fld) (hl : FldsOk l) : ACall Tryd.prog 34 [.one (.sl rFld l)] (foldA l) := by
  have hln := hl.1
  refine acall_of (rs := [2, 3]) Tryd.func34 rfl rfl rfl teOk rfl ?_
  refine acode_seq ?_
  refine acode_region ?_
  refine acode_seq ?_
  refine acode_region ?_
  refine acode_seq ?_
  refine acode_seq ?_
  refine acode_bld 0 5 (.int .u8) rfl ?_
  refine acode_region ?_
  intro l2_1
  try simp only [Int.toNat_natCast, dflt_sl, dflt_st, dflt_str, dflt_int, dflt_bool] at l2_1
  refine acode_block ?_
  refine acode_loopP (fun (x : Nat × Bool) => x.1 ≤ l.length ∧ ∀ f ∈ l.take x.1, checkF f = 0) (fun (x : Nat × Bool) => [(4, .one (.own 0 0)), (11, .one (.sl rFld l)), (12, ii .i64 l.length), (13, ii .i64 x.1)]) (fun (x : Nat × Bool) => [(0, .box 118 [.nself x.2 0, .vec 1]), (1, .vec 5 (.int .u8) (intsOf (bytes (foldL (l.take x.1)))))]) 2 (fun (x : Nat × Bool) => l.length - x.1) (0, false) (⟨Nat.zero_le _, by simp⟩) (le_of ⟨rfl, rfl, rfl, rfl⟩ ⟨rfl, rfl⟩ rfl) ?_
  intro ⟨i, u⟩ hI0
  simp only at hI0 ⊢
  obtain ⟨hi, hall⟩ := hI0
  refine acode_seq ?_
  refine acode_region ?_
  refine acode_seq ?_
  refine acode_cond rfl (fun h14 => ?_) (fun h14 => ?_)
  · try simp only [decide_eq_true_eq] at h14
    try simp only [Int.toNat_natCast, dflt_sl, dflt_st, dflt_str, dflt_int, dflt_bool] at h14
    have hlt : i < l.length := by omega
    have hm := hl.2 _ (getD_mem hlt (ByteArray.empty, ByteArray.empty))
    have hfl : (foldL (l.take i)).length ≤ 1000 * 5000000 := by refine Nat.le_trans (flat_le textL 5000000 _ fun f hf => (text_len (hall f hf)).1) (Nat.mul_le_mul_right _ (by rw [List.length_take]; omega))
    refine acode_skip ?_
    refine acode_seq ?_
    refine acode_block ?_
    refine acode_seq ?_
    refine acode_region ?_
    refine And.intro (by first | omega | assumption | decide | (simp only [Int.toNat_natCast, dflt_sl, dflt_st, dflt_str, dflt_int, dflt_bool]; omega) | (simp <;> omega)) ?_
    refine acode_seq ?_
    rcases check_cases (l.getD i (ByteArray.empty, ByteArray.empty)) with hc|hc|hc
    · refine acode_region ?_
      refine Or.inl ?_
      refine And.intro (rfl) ?_
      refine Exists.intro _ (And.intro ((by have := lines_c (l.getD i (ByteArray.empty, ByteArray.empty)) hm.1 hm.2; rw [linesA_bad hc (by decide)] at this; exact this)) ?_)
      refine acode_seq ?_
      refine acode_seq ?_
      refine acode_region ?_
      refine acode_cond rfl (fun h23 => ?_) (fun h23 => ?_)
      · skip
        refine acode_seq ?_
        refine acode_region ?_
        refine acode_ret ?_
        have hb : badF l = 5 := by rw [badF_at (ByteArray.empty, ByteArray.empty) hlt hall (by rw [hc]; decide), hc]
        unfold foldA
        rw [if_neg (by rw [hb]; decide), hb]
        rfl
      · try simp only [decide_eq_true_eq, decide_eq_false_iff_not, Bool.and_eq_true, Bool.not_eq_true', Bool.not_eq_false', Bool.or_eq_false_iff, Bool.or_eq_true, Bool.and_eq_false_iff, Int.not_lt, Int.not_le] at h23
        try simp only [Int.toNat_natCast, dflt_sl, dflt_st, dflt_str, dflt_int, dflt_bool] at h23
        cases h23
    · refine acode_region ?_
      refine Or.inl ?_
      refine And.intro (rfl) ?_
      refine Exists.intro _ (And.intro ((by have := lines_c (l.getD i (ByteArray.empty, ByteArray.empty)) hm.1 hm.2; rw [linesA_bad hc (by decide)] at this; exact this)) ?_)
      refine acode_seq ?_
      refine acode_seq ?_
      refine acode_region ?_
      refine acode_cond rfl (fun h23 => ?_) (fun h23 => ?_)
      · skip
        refine acode_seq ?_
        refine acode_region ?_
        refine acode_ret ?_
        have hb : badF l = 6 := by rw [badF_at (ByteArray.empty, ByteArray.empty) hlt hall (by rw [hc]; decide), hc]
        unfold foldA
        rw [if_neg (by rw [hb]; decide), hb]
        rfl
      · try simp only [decide_eq_true_eq, decide_eq_false_iff_not, Bool.and_eq_true, Bool.not_eq_true', Bool.not_eq_false', Bool.or_eq_false_iff, Bool.or_eq_true, Bool.and_eq_false_iff, Int.not_lt, Int.not_le] at h23
        try simp only [Int.toNat_natCast, dflt_sl, dflt_st, dflt_str, dflt_int, dflt_bool] at h23
        cases h23
    · refine acode_region ?_
      refine Or.inl ?_
      refine And.intro (rfl) ?_
      refine Exists.intro _ (And.intro ((by have := lines_c (l.getD i (ByteArray.empty, ByteArray.empty)) hm.1 hm.2; rw [linesA_ok hc] at this; exact this)) ?_)
      refine acode_seq ?_
      refine acode_seq ?_
      refine acode_region ?_
      refine acode_cond rfl (fun h23 => ?_) (fun h23 => ?_)
      · try simp only [Bool.not_eq_true'] at h23
        try simp only [Int.toNat_natCast, dflt_sl, dflt_st, dflt_str, dflt_int, dflt_bool] at h23
        cases h23
      · try simp only [Bool.not_eq_false'] at h23
        try simp only [Int.toNat_natCast, dflt_sl, dflt_st, dflt_str, dflt_int, dflt_bool] at h23
        obtain ⟨ps, hps⟩ : ∃ ps, lineB (l.getD i (ByteArray.empty, ByteArray.empty)).1 (l.getD i (ByteArray.empty, ByteArray.empty)).2 = ps := ⟨_, rfl⟩
        refine acode_skip ?_
        refine acode_seq ?_
        refine acode_region ?_
        intro l8_1
        try simp only [Int.toNat_natCast, dflt_sl, dflt_st, dflt_str, dflt_int, dflt_bool] at l8_1
        refine acode_block ?_
        refine acode_loopP (fun (y : Nat × Bool) => y.1 ≤ (lineB (l.getD i (ByteArray.empty, ByteArray.empty)).1 (l.getD i (ByteArray.empty, ByteArray.empty)).2).length) (fun (y : Nat × Bool) => [(4, .one (.own 0 0)), (11, .one (.sl rFld l)), (12, ii .i64 l.length), (13, ii .i64 i), (25, .one (.sl .str (lineB (l.getD i (ByteArray.empty, ByteArray.empty)).1 (l.getD i (ByteArray.empty, ByteArray.empty)).2))), (26, ii .i64 (lineB (l.getD i (ByteArray.empty, ByteArray.empty)).1 (l.getD i (ByteArray.empty, ByteArray.empty)).2).length), (27, ii .i64 y.1)]) (fun (y : Nat × Bool) => [(0, .box 118 [.nself y.2 0, .vec 1]), (1, .vec 5 (.int .u8) (intsOf (bytes (foldL (l.take i) ++ endL ((linesL (l.getD i (ByteArray.empty, ByteArray.empty)).1.data.toList (l.getD i (ByteArray.empty, ByteArray.empty)).2.data.toList).take y.1)))))]) 2 (fun (y : Nat × Bool) => (lineB (l.getD i (ByteArray.empty, ByteArray.empty)).1 (l.getD i (ByteArray.empty, ByteArray.empty)).2).length - y.1) (0, u) (Nat.zero_le _) (le_of ⟨rfl, rfl, rfl, rfl, rfl, rfl, rfl⟩ ⟨rfl, (vec_eq (by simp [endL]))⟩ rfl) ?_
        intro ⟨k, u2⟩ hI2
        simp only at hI2 ⊢
        have hk := hI2
        refine acode_seq ?_
        refine acode_region ?_
        refine acode_seq ?_
        refine acode_cond rfl (fun h28 => ?_) (fun h28 => ?_)
        · try simp only [decide_eq_true_eq] at h28
          try simp only [Int.toNat_natCast, dflt_sl, dflt_st, dflt_str, dflt_int, dflt_bool] at h28
          have hlk : k < (lineB (l.getD i (ByteArray.empty, ByteArray.empty)).1 (l.getD i (ByteArray.empty, ByteArray.empty)).2).length := by omega
          have hg := lineB_get hlk
          have hlk2 : k < (linesL (l.getD i (ByteArray.empty, ByteArray.empty)).1.data.toList (l.getD i (ByteArray.empty, ByteArray.empty)).2.data.toList).length := by unfold lineB at hlk; rw [List.length_map] at hlk; exact hlk
          have hgs : ((lineB (l.getD i (ByteArray.empty, ByteArray.empty)).1 (l.getD i (ByteArray.empty, ByteArray.empty)).2).getD k ByteArray.empty).size ≤ 2000 := by rw [hg, bytes_size]; obtain ⟨_, h2, h3⟩ := check_ok hc; rw [size_list] at h2 h3; exact (line_len h3 h2).2 _ (getD_mem hlk2 _)
          have hen := (text_len hc).2 k
          refine acode_skip ?_
          refine acode_seq ?_
          refine acode_block ?_
          refine acode_seq ?_
          refine acode_region ?_
          refine And.intro (by first | omega | assumption | decide | (simp only [Int.toNat_natCast, dflt_sl, dflt_st, dflt_str, dflt_int, dflt_bool]; omega) | (simp <;> omega)) ?_
          refine acode_region ?_
          refine And.intro (by unfold maxLen; rw [Int.toNat_natCast]; exact Nat.le_trans (Nat.add_le_add_right hgs 1) (by decide)) ?_
          refine Or.inr (Exists.intro [] (Exists.intro [0, 1] (Exists.intro _ (Exists.intro _ (Exists.intro _ (Exists.intro _ (Exists.intro _ (And.intro (writeString_o _ _ _ (by rw [ints_len, List.length_append, ByteArray.size_append, Int.toNat_natCast, show ByteArray.size ⟨#[10]⟩ = 1 from rfl]; have := hgs; show _ + (((lineB (l.getD i (ByteArray.empty, ByteArray.empty)).1 (l.getD i (ByteArray.empty, ByteArray.empty)).2).getD k ByteArray.empty).size + 1) ≤ _; omega)) (And.intro rfl (And.intro (And.intro (And.intro rfl rfl) (And.intro (And.intro rfl rfl) True.intro)) (And.intro rfl ?_)))))))))))
          refine acode_region ?_
          refine And.intro (by first | omega | assumption | decide | (simp only [Int.toNat_natCast, dflt_sl, dflt_st, dflt_str, dflt_int, dflt_bool]; omega) | (simp <;> omega)) ?_
          exact ⟨(k + 1, true), (by simp only; omega), by first | omega | (simp <;> omega), le_of ⟨rfl, rfl, rfl, rfl, rfl, rfl, (ii_eq (by simp only; omega))⟩ ⟨rfl, (vec_eq (by simp only; rw [endL_snoc _ _ hlk2, ← List.append_assoc]; exact ints_add _ _ _ (by rw [bytes_app, ← hg]; rfl)))⟩ rfl⟩
        · try simp only [decide_eq_false_iff_not, Int.not_lt] at h28
          try simp only [Int.toNat_natCast, dflt_sl, dflt_st, dflt_str, dflt_int, dflt_bool] at h28
          refine acode_exit ?_
          refine acode_region ?_
          refine And.intro (by first | omega | assumption | decide | (simp only [Int.toNat_natCast, dflt_sl, dflt_st, dflt_str, dflt_int, dflt_bool]; omega) | (simp <;> omega)) ?_
          exact ⟨(i + 1, u2), ⟨by simp only; omega, by simp only; rw [← take_snoc (ByteArray.empty, ByteArray.empty) hlt]; intro f hf; rcases List.mem_append.1 hf with h|h; exact hall f h; rw [List.mem_singleton.1 h]; exact hc⟩, by first | omega | (simp <;> omega), le_of ⟨rfl, rfl, rfl, (ii_eq (by simp only; omega))⟩ ⟨rfl, (vec_eq (by simp only; rw [foldL_snoc l i (ByteArray.empty, ByteArray.empty) hlt, show List.take k (linesL (l.getD i (ByteArray.empty, ByteArray.empty)).1.data.toList (l.getD i (ByteArray.empty, ByteArray.empty)).2.data.toList) = linesL (l.getD i (ByteArray.empty, ByteArray.empty)).1.data.toList (l.getD i (ByteArray.empty, ByteArray.empty)).2.data.toList from List.take_of_length_le (by unfold lineB at h28; rw [List.length_map] at h28; omega)]; rfl))⟩ rfl⟩
  · try simp only [decide_eq_false_iff_not, Int.not_lt] at h14
    try simp only [Int.toNat_natCast, dflt_sl, dflt_st, dflt_str, dflt_int, dflt_bool] at h14
    refine acode_exit ?_
    refine acode_seq ?_
    refine acode_region ?_
    refine Or.inr (Exists.intro [] (Exists.intro [0, 1] (Exists.intro _ (Exists.intro _ (Exists.intro _ (Exists.intro _ (Exists.intro _ (And.intro (string_o _ _) (And.intro rfl (And.intro (And.intro (And.intro rfl rfl) (And.intro (And.intro rfl rfl) True.intro)) (And.intro rfl ?_)))))))))))
    refine acode_ret ?_
    rw [List.take_of_length_le (by omega)] at hall ⊢
    unfold foldA
    rw [if_pos (badF_ok hall)]
    rfl
end Q
end Ab
end Go.Proofs.YthlfbpmbkcoclaaDoor
namespace Go.Proofs.YthlfbpmbkcoclaaDoor
open Go.RowKit
namespace Ab
set_option maxRecDepth 100000
namespace Q
theorem endL_join : ∀ ps : List (List UInt8), endL ps = Lib.join (ps ++ [[]]) [10]
  | [] => rfl
  | p :: ps => by
    obtain ⟨q, qs, e⟩ : ∃ q qs, ps ++ [([] : List UInt8)] = q :: qs := by
      cases ps with
      | nil => exact ⟨_, _, rfl⟩
      | cons a b => exact ⟨_, _, rfl⟩
    rw [List.cons_append, e, join_two, ← e, ← endL_join ps]
    simp [endL]
theorem lines_no {k v : List UInt8} (hk : keyOk k = true) : ∀ s ∈ linesL k v, 10 ∉ s := by
  have hno := parts_no v
  intro s hs
  obtain ⟨c, r, hkr, _, _, _, h10, _⟩ := keyOk_spec hk
  unfold linesL at hs
  rcases List.mem_cons.1 hs with rfl | hs
  · have h0 : 10 ∉ (partsL v).headD [] := by
      cases e : partsL v with
      | nil => exact absurd e (split_ne v [10])
      | cons p ps => rw [e] at hno; exact hno p (by simp)
    unfold firstL
    simp only [List.mem_append, not_or]
    refine ⟨⟨h10, by decide⟩, ?_⟩
    split
    · simp
    · simp only [List.mem_cons, not_or]; exact ⟨by decide, h0⟩
  · obtain ⟨q, hq, rfl⟩ := List.mem_map.1 hs
    simp only [List.mem_cons, not_or]
    exact ⟨by decide, stuff_no (hno q (List.mem_of_mem_drop hq))⟩
theorem endL_inj {ps qs : List (List UInt8)} (hp : ∀ s ∈ ps, 10 ∉ s) (hq : ∀ s ∈ qs, 10 ∉ s) (h : endL ps = endL qs) : ps = qs := by
  have e : ∀ ps : List (List UInt8), (∀ s ∈ ps, 10 ∉ s) → partsL (endL ps) = ps ++ [[]] := fun ps hp => by
    rw [endL_join]
    exact split_join (by simp) _ (by simp) fun p h => by
      rcases List.mem_append.1 h with h | h
      · exact clean_one (hp p h)
      · rw [List.mem_singleton.1 h]; exact clean_one (by simp)
  have := e ps hp
  rw [h, e qs hq] at this
  exact (List.append_cancel_right this).symm
theorem text_inj {a b : Fld} (ha : checkF a = 0) (hb : checkF b = 0) : textL a = textL b ↔ a = b := by
  refine ⟨fun h => ?_, fun h => by rw [h]⟩
  obtain ⟨ka, va, _⟩ := check_ok ha
  obtain ⟨kb, vb, _⟩ := check_ok hb
  have := endL_inj (lines_no ka) (lines_no kb) h
  have h1 := unfold_lines ka (by rw [← size_list]; exact va)
  have h2 := unfold_lines kb (by rw [← size_list]; exact vb)
  rw [this, h2] at h1
  have h3 := congrArg Prod.fst h1
  have h4 := congrArg Prod.fst h3
  have h5 := congrArg Prod.snd h3
  simp only at h4 h5
  have h6 : a.1 = b.1 := by rw [← bytes_ls a.1, ← bytes_ls b.1]; unfold ls; rw [h4]
  have h7 : a.2 = b.2 := by rw [← bytes_ls a.2, ← bytes_ls b.2]; unfold ls; rw [h5]
  exact Prod.ext h6 h7
theorem fold_full (l : List Fld) (hl : FldsOk l) : ACall Tryd.prog 34 [.one (.full rFld l)] (foldA l) := by
  refine acall_arg (fun ok ρ w vs h => ?_) (fold_c l hl)
  obtain ⟨v, r, rfl, h1, h3⟩ := h
  exact ⟨v, _, rfl, h1.1, h3⟩
theorem fold_yes {l : List Fld} (hl : FldsOk l) (h : badF l = 0) : ACall Tryd.prog 34 [.one (.sl rFld l)] (.tup [(false, [.lit (.string (bytes (foldL l)))]), (false, [.lit .nilIface])]) := by
  have := fold_c l hl; unfold foldA at this; rw [if_pos h] at this; exact this
theorem fold_no {l : List Fld} (hl : FldsOk l) (h : ¬ badF l = 0) : ACall Tryd.prog 34 [.one (.sl rFld l)] (.tup [(false, [.lit (.string ⟨#[]⟩)]), (false, [errN (badF l)])]) := by
  have := fold_c l hl; unfold foldA at this; rw [if_neg h] at this; exact this
theorem falive_bad : badF [(⟨#[65]⟩, ⟨#[120, 10, 10, 46, 121]⟩)] = 0 := by decide +kernel
theorem falive_text : bytes (foldL [(⟨#[65]⟩, ⟨#[120, 10, 10, 46, 121]⟩)]) = ⟨#[65, 58, 32, 120, 10, 32, 46, 10, 32, 46, 46, 121, 10]⟩ := by decide +kernel
theorem falive_c : ACall Tryd.prog 32 [] (ib true) := by
  refine acall_of (rs := [0]) Tryd.func32 rfl rfl rfl teOk rfl ?_
  refine acode_seq ?_
  refine acode_region ?_
  refine acode_seq ?_
  refine acode_region ?_
  refine Or.inl ?_
  refine And.intro (rfl) ?_
  refine Exists.intro _ (And.intro ((by have := fold_yes (l := [(⟨#[65]⟩, ⟨#[120, 10, 10, 46, 121]⟩)]) ⟨by decide, by decide⟩ falive_bad; rw [falive_text] at this; exact this)) ?_)
  refine acode_seq ?_
  refine acode_region ?_
  refine And.intro (fun h => trivial) ?_
  refine And.intro (fun h => ⟨⟨h, trivial⟩, trivial⟩) ?_
  refine And.intro (by exact fun h => h) ?_
  refine acode_ret ?_
  exact ib_eq (by decide)
theorem one_ok {f : Fld} (h1 : f.1.size ≤ 1000000) (h2 : f.2.size ≤ 1000000) : FldsOk [f] := ⟨by simp, fun g hg => by rw [List.mem_singleton.1 hg]; exact ⟨h1, h2⟩⟩
theorem badF_one (f : Fld) : badF [f] = checkF f := by
  unfold badF badF; split
  · rename_i h; exact h.symm
  · rfl
theorem apart_b {a b : Fld} (ha : badF [a] = 0) (hb : badF [b] = 0) : (decide (bytes (foldL [a]) = bytes (foldL [b])) == (decide (a.1 = b.1) && decide (a.2 = b.2))) = true := by
  rw [badF_one] at ha hb
  have e : bytes (foldL [a]) = bytes (foldL [b]) ↔ (a.1 = b.1 ∧ a.2 = b.2) := by
    have h1 : foldL [a] = textL a := by simp [foldL]
    have h2 : foldL [b] = textL b := by simp [foldL]
    rw [h1, h2, ← Prod.ext_iff, ← text_inj ha hb]
    refine ⟨fun h => ?_, fun h => by rw [h]⟩
    have := congrArg (fun x : ByteArray => x.data.toList) h
    simp only [bytes_list] at this
    exact this
  rw [decide_eq_decide.2 e, Bool.decide_and]; simp
theorem FoldApart_c (a b : Fld) : ACall Tryd.prog 8 [.agg (toL rFld a), .agg (toL rFld b)] (ib true) := by
  refine acall_of (rs := [4]) Tryd.func8 rfl rfl rfl teOk rfl ?_
  refine acode_seq ?_
  refine acode_region ?_
  refine acode_seq ?_
  refine acode_seq ?_
  refine acode_region ?_
  refine Or.inl ?_
  refine And.intro (rfl) ?_
  refine Exists.intro _ (And.intro (falive_c) ?_)
  refine acode_cond rfl (fun h10 => ?_) (fun h10 => ?_)
  · try simp only [Bool.not_eq_true'] at h10
    try simp only [Int.toNat_natCast, dflt_sl, dflt_st, dflt_str, dflt_int, dflt_bool] at h10
    cases h10
  · try simp only [Bool.not_eq_false'] at h10
    try simp only [Int.toNat_natCast, dflt_sl, dflt_st, dflt_str, dflt_int, dflt_bool] at h10
    refine acode_skip ?_
    refine acode_seq ?_
    refine acode_seq ?_
    refine acode_region ?_
    refine And.intro (fun h => trivial) ?_
    refine And.intro (fun h => ⟨⟨h, trivial⟩, trivial⟩) ?_
    refine And.intro (fun h => ⟨⟨h, trivial⟩, trivial⟩) ?_
    refine And.intro (fun h => ⟨⟨h, trivial⟩, trivial⟩) ?_
    refine And.intro (by first | (intro h; rw [h]; rfl) | (intro h; cases h)) ?_
    refine And.intro (fun h => trivial) ?_
    refine And.intro (fun h => ⟨⟨h, trivial⟩, trivial⟩) ?_
    refine And.intro (fun h => ⟨⟨h, trivial⟩, trivial⟩) ?_
    refine And.intro (fun h => ⟨⟨h, trivial⟩, trivial⟩) ?_
    refine And.intro (by first | (intro h; rw [h]; rfl) | (intro h; cases h)) ?_
    refine And.intro (fun h => trivial) ?_
    refine And.intro (fun h => ⟨⟨h, trivial⟩, trivial⟩) ?_
    refine And.intro (fun h => ⟨⟨h, trivial⟩, trivial⟩) ?_
    refine And.intro (fun h => ⟨⟨h, trivial⟩, trivial⟩) ?_
    refine And.intro (by first | (intro h; rw [h]; rfl) | (intro h; cases h)) ?_
    refine acode_cond rfl (fun h32 => ?_) (fun h32 => ?_)
    · try simp only [decide_eq_true_eq, Bool.or_eq_true] at h32
      try simp only [Int.toNat_natCast, dflt_sl, dflt_st, dflt_str, dflt_int, dflt_bool] at h32
      refine acode_seq ?_
      refine acode_region ?_
      refine acode_ret ?_
      rfl
    · try simp only [decide_eq_false_iff_not, Bool.or_eq_false_iff, Int.not_lt] at h32
      try simp only [Int.toNat_natCast, dflt_sl, dflt_st, dflt_str, dflt_int, dflt_bool] at h32
      have ha1 : FldsOk [a] := one_ok (by omega) (by omega)
      have hb1 : FldsOk [b] := one_ok (by omega) (by omega)
      refine acode_skip ?_
      refine acode_seq ?_
      by_cases ha : badF [a] = 0
      · refine acode_region ?_
        refine Or.inl ?_
        refine And.intro (rfl) ?_
        refine Exists.intro _ (And.intro (fold_yes ha1 ha) ?_)
        refine acode_seq ?_
        by_cases hb : badF [b] = 0
        · refine acode_region ?_
          refine Or.inl ?_
          refine And.intro (rfl) ?_
          refine Exists.intro _ (And.intro (fold_yes hb1 hb) ?_)
          refine acode_seq ?_
          refine acode_seq ?_
          refine acode_region ?_
          refine And.intro (fun h => trivial) ?_
          refine And.intro (fun h => ⟨⟨h, trivial⟩, trivial⟩) ?_
          refine And.intro (by first | (intro h; rw [h]; rfl) | (intro h; cases h)) ?_
          refine acode_cond rfl (fun h50 => ?_) (fun h50 => ?_)
          · try simp only [Bool.not_eq_true', Bool.or_eq_true] at h50
            try simp only [Int.toNat_natCast, dflt_sl, dflt_st, dflt_str, dflt_int, dflt_bool] at h50
            simp at h50
          · try simp only [Bool.not_eq_false', Bool.or_eq_false_iff] at h50
            try simp only [Int.toNat_natCast, dflt_sl, dflt_st, dflt_str, dflt_int, dflt_bool] at h50
            refine acode_skip ?_
            refine acode_seq ?_
            refine acode_region ?_
            refine And.intro (by rfl) ?_
            refine acode_ret ?_
            exact ib_eq (apart_b ha hb)
        · refine acode_region ?_
          refine Or.inl ?_
          refine And.intro (rfl) ?_
          refine Exists.intro _ (And.intro (fold_no hb1 hb) ?_)
          refine acode_seq ?_
          refine acode_seq ?_
          refine acode_region ?_
          refine And.intro (fun h => trivial) ?_
          refine And.intro (fun h => ⟨⟨h, trivial⟩, trivial⟩) ?_
          refine And.intro (by first | (intro h; rw [h]; rfl) | (intro h; cases h)) ?_
          refine acode_cond rfl (fun h50 => ?_) (fun h50 => ?_)
          · try simp only [Bool.not_eq_true', Bool.or_eq_true] at h50
            try simp only [Int.toNat_natCast, dflt_sl, dflt_st, dflt_str, dflt_int, dflt_bool] at h50
            refine acode_seq ?_
            refine acode_region ?_
            refine acode_ret ?_
            rfl
          · try simp only [Bool.not_eq_false', Bool.or_eq_false_iff] at h50
            try simp only [Int.toNat_natCast, dflt_sl, dflt_st, dflt_str, dflt_int, dflt_bool] at h50
            simp at h50
      · refine acode_region ?_
        refine Or.inl ?_
        refine And.intro (rfl) ?_
        refine Exists.intro _ (And.intro (fold_no ha1 ha) ?_)
        refine acode_seq ?_
        by_cases hb : badF [b] = 0
        · refine acode_region ?_
          refine Or.inl ?_
          refine And.intro (rfl) ?_
          refine Exists.intro _ (And.intro (fold_yes hb1 hb) ?_)
          refine acode_seq ?_
          refine acode_seq ?_
          refine acode_region ?_
          refine And.intro (fun h => trivial) ?_
          refine And.intro (fun h => ⟨⟨h, trivial⟩, trivial⟩) ?_
          refine And.intro (by first | (intro h; rw [h]; rfl) | (intro h; cases h)) ?_
          refine acode_cond rfl (fun h50 => ?_) (fun h50 => ?_)
          · try simp only [Bool.not_eq_true', Bool.or_eq_true] at h50
            try simp only [Int.toNat_natCast, dflt_sl, dflt_st, dflt_str, dflt_int, dflt_bool] at h50
            refine acode_seq ?_
            refine acode_region ?_
            refine acode_ret ?_
            rfl
          · try simp only [Bool.not_eq_false', Bool.or_eq_false_iff] at h50
            try simp only [Int.toNat_natCast, dflt_sl, dflt_st, dflt_str, dflt_int, dflt_bool] at h50
            simp at h50
        · refine acode_region ?_
          refine Or.inl ?_
          refine And.intro (rfl) ?_
          refine Exists.intro _ (And.intro (fold_no hb1 hb) ?_)
          refine acode_seq ?_
          refine acode_seq ?_
          refine acode_region ?_
          refine And.intro (fun h => trivial) ?_
          refine And.intro (fun h => ⟨⟨h, trivial⟩, trivial⟩) ?_
          refine And.intro (by first | (intro h; rw [h]; rfl) | (intro h; cases h)) ?_
          refine acode_cond rfl (fun h50 => ?_) (fun h50 => ?_)
          · try simp only [Bool.or_eq_true] at h50
            try simp only [Int.toNat_natCast, dflt_sl, dflt_st, dflt_str, dflt_int, dflt_bool] at h50
            refine acode_seq ?_
            refine acode_region ?_
            refine acode_ret ?_
            rfl
          · try simp only [Bool.or_eq_false_iff] at h50
            try simp only [Int.toNat_natCast, dflt_sl, dflt_st, dflt_str, dflt_int, dflt_bool] at h50
            simp at h50
end Q
end Ab
end Go.Proofs.YthlfbpmbkcoclaaDoor
