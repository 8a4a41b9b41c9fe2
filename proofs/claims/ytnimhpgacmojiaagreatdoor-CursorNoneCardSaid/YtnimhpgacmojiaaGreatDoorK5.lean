/-
  The texts of this proof, joined: abstract values, the library, the functions of the program and what they compute (part 5). No condition.
-/
import Derived.Lib.UnsafeStr
import Derived.Shelf.RegionOpenPlain
import Derived.Shelf.Spec.SlicesInsert
import Derived.Lib.AppendZerosOnto
import Derived.Laws.NewBlocks
import Derived.Lib.SplitLaws
import Derived.Lib.Join
import Derived.Shelf.Vars
import Derived.KernelRfl
import Derived.Test.YtnimhpgacmojiaaGreatDoorK1
import Derived.Test.YtnimhpgacmojiaaGreatDoorK2
import Derived.Test.YtnimhpgacmojiaaGreatDoorK3
import Derived.Test.YtnimhpgacmojiaaGreatDoorK4
namespace Go.Proofs.YtnimhpgacmojiaaGreatDoor
open Go.RowKit
namespace Ab
set_option maxRecDepth 100000
namespace Q
theorem split_c (s : ByteArray) : ACall Tryz.prog 76 [is s] (.one (.clo 109 (.addr .str s))) := by
  refine acall_of (rs := [2]) Tryz.func76 rfl rfl rfl teOk rfl ?_
  refine acode_seq ?_
  refine acode_region ?_
  refine acode_seq ?_
  refine acode_region ?_
  refine acode_frz [0] ?_
  refine acode_ret ?_
  rfl
def runS (p : PSt) : List Lne → (Int × Int) ⊕ PSt
  | [] => .inr p
  | l :: r => match takeS p l with
    | .inl e => .inl e
    | .inr q => runS q r
def parseS (s : ByteArray) : (Int × Int) ⊕ List Itm := match runS pst0 (linesT s) with
  | .inl e => .inl e
  | .inr p => match endS p with
    | .inl e => .inl e
    | .inr q => .inr q.its
def resP : (Int × Int) ⊕ List Itm → A
  | .inl e => .tup [(false, [.sl rItm []]), (false, [errF e.1 e.2])]
  | .inr l => .tup [(false, [.sl rItm l]), (false, [.lit .nilIface])]
theorem linesR_len : ∀ (f : Nat) (tot no : Int) (s : List UInt8), (linesR f tot no s).length ≤ s.length ∧ ((linesR f tot no s).map (·.2.2.1.size)).sum ≤ s.length
  | 0, _, _, _ => by simp [linesR]
  | f + 1, tot, no, [] => by simp [linesR]
  | f + 1, tot, no, a :: r => by
    obtain ⟨h1, h2⟩ := linesR_len f tot (no + 1) (Lib.cut (a :: r) [10]).2.1
    have h3 : (Lib.cut (a :: r) [10]).2.1.length < (a :: r).length := cut_less (by simp)
    have h4 : (Lib.cut (a :: r) [10]).1.length + (Lib.cut (a :: r) [10]).2.1.length ≤ (a :: r).length := by
      by_cases hm : (10 : UInt8) ∈ a :: r
      · obtain ⟨x, b, e, hn⟩ := List.eq_append_cons_of_mem hm
        rw [e, cut_at hn, List.length_append, List.length_cons]
        show x.length + b.length ≤ _
        omega
      · rw [cut_none hm]
        exact Nat.le_refl _
    unfold linesR
    simp only [List.length_cons, List.map_cons, List.sum_cons, bytes_size] at h3 h4 ⊢
    exact ⟨by omega, by omega⟩
theorem linesT_len (s : ByteArray) : (linesT s).length ≤ s.size ∧ ((linesT s).map (·.2.2.1.size)).sum ≤ s.size := by
  have := linesR_len s.size s.size 0 (ls s)
  rw [show (ls s).length = s.size from (size_list s).symm] at this
  exact this
def prP (L : List Lne) : Bool → Nat → PSt ⊕ (Int × Int) → Prop
  | false, k, .inl p => runS pst0 L = runS p (L.drop k) ∧ ∃ B, PB p B ∧ B + 3 * (L.drop k).length + 2 * ((L.drop k).map (·.2.2.1.size)).sum ≤ 600000
  | true, _, .inr e => runS pst0 L = .inl e
  | _, _, _ => False
def obP : PSt ⊕ (Int × Int) → Obs
  | .inl p => [(0, .box 67 [.lit (.slice none 0 0)]), (1, .box 42 [.lit .nilIface]), (2, .box 146 [.vec 4, .lit (.int .i64 p.frm), .lit (.bool p.full), .vec 5, .vec 6, .vec 7, .lit (.int .i64 p.recs)]), (3, .box 142 [.own 2 0]), (4, .vec 9 .str p.lns), (5, .vec 71 rItm p.its), (6, .vec 9 .str p.blk), (7, .vec 91 rFld p.flds)]
  | .inr e => [(0, .box 67 [.lit (.slice none 0 0)]), (1, .box 42 [errF e.1 e.2])]
theorem prP_next {L : List Lne} {k : Nat} {p q : PSt} {l : Lne} (hk : k < L.length) (hl : L[k] = l) (h : prP L false k (.inl p)) (ht : takeS p l = .inr q) : prP L false (k + 1) (.inl q) := by
  obtain ⟨h1, B, h2, h3⟩ := h
  rw [List.drop_eq_getElem_cons hk, hl] at h1 h3
  simp only [runS, ht] at h1
  simp only [List.length_cons, List.map_cons, List.sum_cons] at h3
  exact ⟨h1, _, takeS_B h2 ht, by omega⟩
theorem prP_stop {L : List Lne} {k : Nat} {p : PSt} {e : Int × Int} {l : Lne} (hk : k < L.length) (hl : L[k] = l) (h : prP L false k (.inl p)) (ht : takeS p l = .inl e) : prP L true (k + 1) (.inr e) := by
  obtain ⟨h1, B, h2, h3⟩ := h
  rw [List.drop_eq_getElem_cons hk, hl] at h1
  simp only [runS, ht] at h1
  exact h1
theorem prP_B {L : List Lne} {k : Nat} {p : PSt} {l : Lne} (hk : k < L.length) (hl : L[k] = l) (h : prP L false k (.inl p)) : PB p 800000 ∧ l.2.2.1.size ≤ 300000 := by
  obtain ⟨h1, B, h2, h3⟩ := h
  rw [List.drop_eq_getElem_cons hk, hl] at h3
  simp only [List.length_cons, List.map_cons, List.sum_cons] at h3
  exact ⟨h2.mono (by omega), by omega⟩
theorem prP_end {L : List Lne} {p : PSt} (h : prP L false L.length (.inl p)) : runS pst0 L = .inr p ∧ PB p 1000000 := by
  obtain ⟨h1, B, h2, h3⟩ := h
  rw [List.drop_length] at h1
  exact ⟨h1, h2.mono (by omega)⟩
theorem linesT_sz {s : ByteArray} {k : Nat} (hk : k < (linesT s).length) : ((linesT s)[k]).2.2.1.size ≤ s.size := by
  have h := (linesT_len s).2
  have h1 : (linesT s) = (linesT s).take k ++ (linesT s)[k] :: (linesT s).drop (k + 1) := by rw [← List.drop_eq_getElem_cons hk, List.take_append_drop]
  rw [h1, List.map_append, List.sum_append, List.map_cons, List.sum_cons] at h
  omega
theorem parse_a (s : ByteArray) (hs : s.size ≤ 60000) : ACall Tryz.prog 40 [is s] (resP (parseS s)) := by
  have hlen := linesT_len s
  refine acall_ofc (rs := [.cell 2 67, .cell 3 42]) Tryz.func40 rfl rfl rfl teOk rfl ?_
  refine acode_seq ?_
  refine acode_region ?_
  refine acode_seq ?_
  refine acode_seq ?_
  refine acode_region ?_
  refine acode_cond rfl (fun h10 => ?_) (fun h10 => ?_)
  ·try simp only [decide_eq_true_eq] at h10
   try simp only [Int.toNat_natCast, dflt_sl, dflt_st, dflt_str, dflt_int, dflt_bool] at h10
   omega
  ·try simp only [decide_eq_false_iff_not, Int.not_lt] at h10
   try simp only [Int.toNat_natCast, dflt_sl, dflt_st, dflt_str, dflt_int, dflt_bool] at h10
   refine acode_skip ?_
   refine acode_seq ?_
   refine acode_region ?_
   refine acode_seq ?_
   refine acode_seq ?_
   refine acode_nilcell 2 0 9 .str rfl rfl rfl ?_
   refine acode_nilcell 2 3 71 rItm rfl rfl rfl ?_
   refine acode_nilcell 2 4 9 .str rfl rfl rfl ?_
   refine acode_nilcell 2 5 91 rFld rfl rfl rfl ?_
   refine acode_region ?_
   refine Or.inl ?_
   refine And.intro (rfl) ?_
   refine Exists.intro _ (And.intro (split_c s) ?_)
   refine acode_block ?_
   refine acode_range (caps := [.one (.addr .str s)]) (xs := itLs s) [(2, .one (.own 0 0)), (3, .one (.own 1 0)), (4, .one (.own 3 0)), (15, .one (.clo 109 (.addr .str s)))] 8 (prP (linesT s)) obP (fun _ => .ret) (.inl pst0) rfl rfl (split_iter s (by omega)) (le_of ⟨rfl, rfl, rfl, rfl⟩ ⟨rfl, rfl, rfl, rfl, rfl, rfl, rfl, rfl⟩ rfl) ⟨rfl, 0, ⟨Nat.le_refl _, Nat.le_refl _, Nat.le_refl _, Nat.le_refl _, Nat.le_refl _, Nat.le_refl _, Int.le_refl _, Int.le_refl _⟩, by rw [List.drop_zero]; omega⟩ (fun k hk => by simp [itLs]) rfl rfl rfl (fun k i h => by cases i with | inl p => rfl | inr e => exact h.elim) rfl ?_ ?_ ?_
   ·intro k i hk hp
    have hk2 : k < (linesT s).length := (by have := hk; unfold itLs at this; rwa [List.length_map] at this)
    rw [show (itLs s)[k] = [A.agg (toL rLne ((linesT s)[k]))] from by simp [itLs]]
    obtain ⟨l, hl⟩ : ∃ l, (linesT s)[k] = l := ⟨_, rfl⟩
    rw [hl]
    cases i with | inr e => exact hp.elim | inl p => ?_
    obtain ⟨hB, hz⟩ := prP_B hk2 hl hp
    have hz2 : l.2.2.1.size ≤ 90000 := (by have h1 := linesT_sz hk2; rw [hl] at h1; omega)
    refine acode_region ?_
    refine acode_block ?_
    refine acode_seq ?_
    rcases ht : takeS p l with ⟨at_, n⟩ | q
    ·refine acode_region ?_
     refine Or.inr (Or.inl (Exists.intro [] (Exists.intro [2, 4, 5, 6, 7] (Exists.intro _ (Exists.intro _ (Exists.intro _ (Exists.intro _ (Exists.intro _ (And.intro (take_err ht hB hz2) (And.intro rfl (And.intro (And.intro (And.intro rfl rfl) (And.intro (And.intro rfl rfl) (And.intro (And.intro rfl rfl) (And.intro (And.intro rfl rfl) (And.intro (And.intro rfl rfl) True.intro))))) (And.intro rfl ?_))))))))))))
     refine acode_seq ?_
     refine acode_region ?_
     refine acode_cond rfl (fun h21 => ?_) (fun h21 => ?_)
     ·skip
      refine acode_seq ?_
      refine acode_region ?_
      refine acode_ret ?_
      exact ⟨.inr (at_, n), prP_stop hk2 hl hp ht, rfl, le_of trivial ⟨rfl, rfl⟩ rfl⟩
     ·try simp only [decide_eq_true_eq, decide_eq_false_iff_not, Bool.and_eq_true, Bool.not_eq_true', Bool.not_eq_false', Bool.or_eq_false_iff, Bool.or_eq_true, Bool.and_eq_false_iff, Int.not_lt, Int.not_le] at h21
      try simp only [Int.toNat_natCast, dflt_sl, dflt_st, dflt_str, dflt_int, dflt_bool] at h21
      cases h21
    ·refine acode_region ?_
     refine Or.inr (Or.inl (Exists.intro [] (Exists.intro [2, 4, 5, 6, 7] (Exists.intro _ (Exists.intro _ (Exists.intro _ (Exists.intro _ (Exists.intro _ (And.intro (take_ok ht hB hz2) (And.intro rfl (And.intro (And.intro (And.intro rfl rfl) (And.intro (And.intro rfl rfl) (And.intro (And.intro rfl rfl) (And.intro (And.intro rfl rfl) (And.intro (And.intro rfl rfl) True.intro))))) (And.intro rfl ?_))))))))))))
     refine acode_seq ?_
     refine acode_region ?_
     refine acode_cond rfl (fun h21 => ?_) (fun h21 => ?_)
     ·try simp only [Bool.not_eq_true'] at h21
      try simp only [Int.toNat_natCast, dflt_sl, dflt_st, dflt_str, dflt_int, dflt_bool] at h21
      cases h21
     ·try simp only [Bool.not_eq_false'] at h21
      try simp only [Int.toNat_natCast, dflt_sl, dflt_st, dflt_str, dflt_int, dflt_bool] at h21
      refine acode_skip ?_
      exact ⟨.inl q, prP_next hk2 hl hp ht, le_of trivial ⟨rfl, rfl, rfl, rfl, rfl, rfl, rfl, rfl⟩ rfl⟩
   ·intro i hp
    cases i with | inr e => exact hp.elim | inl p => ?_
    rw [show (itLs s).length = (linesT s).length from by simp [itLs]] at hp
    obtain ⟨hr, hB⟩ := prP_end hp
    refine acode_seq ?_
    refine acode_seq ?_
    rcases he : endS p with ⟨at_, n⟩ | q
    ·refine acode_region ?_
     refine Or.inr (Or.inl (Exists.intro [] (Exists.intro [2, 4, 5, 6, 7] (Exists.intro _ (Exists.intro _ (Exists.intro _ (Exists.intro _ (Exists.intro _ (And.intro (end_err he hB) (And.intro rfl (And.intro (And.intro (And.intro rfl rfl) (And.intro (And.intro rfl rfl) (And.intro (And.intro rfl rfl) (And.intro (And.intro rfl rfl) (And.intro (And.intro rfl rfl) True.intro))))) (And.intro rfl ?_))))))))))))
     refine acode_seq ?_
     refine acode_region ?_
     refine acode_cond rfl (fun h26 => ?_) (fun h26 => ?_)
     ·skip
      refine acode_seq ?_
      refine acode_region ?_
      refine acode_nilcell 0 0 71 rItm rfl rfl rfl ?_
      refine acode_ret ?_
      rw [show parseS s = .inl (at_, n) from by unfold parseS; rw [hr]; simp only [he]]
      exact rfl
     ·try simp only [decide_eq_true_eq, decide_eq_false_iff_not, Bool.and_eq_true, Bool.not_eq_true', Bool.not_eq_false', Bool.or_eq_false_iff, Bool.or_eq_true, Bool.and_eq_false_iff, Int.not_lt, Int.not_le] at h26
      try simp only [Int.toNat_natCast, dflt_sl, dflt_st, dflt_str, dflt_int, dflt_bool] at h26
      cases h26
    ·refine acode_region ?_
     refine Or.inr (Or.inl (Exists.intro [] (Exists.intro [2, 4, 5, 6, 7] (Exists.intro _ (Exists.intro _ (Exists.intro _ (Exists.intro _ (Exists.intro _ (And.intro (end_ok he hB) (And.intro rfl (And.intro (And.intro (And.intro rfl rfl) (And.intro (And.intro rfl rfl) (And.intro (And.intro rfl rfl) (And.intro (And.intro rfl rfl) (And.intro (And.intro rfl rfl) True.intro))))) (And.intro rfl ?_))))))))))))
     refine acode_seq ?_
     refine acode_region ?_
     refine acode_cond rfl (fun h26 => ?_) (fun h26 => ?_)
     ·try simp only [Bool.not_eq_true'] at h26
      try simp only [Int.toNat_natCast, dflt_sl, dflt_st, dflt_str, dflt_int, dflt_bool] at h26
      cases h26
     ·try simp only [Bool.not_eq_false'] at h26
      try simp only [Int.toNat_natCast, dflt_sl, dflt_st, dflt_str, dflt_int, dflt_bool] at h26
      refine acode_skip ?_
      refine acode_seq ?_
      refine acode_region ?_
      refine acode_ret ?_
      rw [show parseS s = .inr q.its from by unfold parseS; rw [hr]; simp only [he]]
      exact rfl
   ·intro k i hp
    cases i with | inl p => exact hp.elim | inr e => ?_
    have hp : runS pst0 (linesT s) = .inl e := hp
    refine acode_nilcell 0 0 71 rItm rfl rfl rfl ?_
    refine acode_ret ?_
    rw [show parseS s = .inl e from by unfold parseS; rw [hp]]
    exact rfl
end Q
end Ab
end Go.Proofs.YtnimhpgacmojiaaGreatDoor
namespace Go.Proofs.YtnimhpgacmojiaaGreatDoor
open Go.RowKit
namespace Ab
set_option maxRecDepth 100000
namespace Q
end Q
end Ab
end Go.Proofs.YtnimhpgacmojiaaGreatDoor
namespace Go.Proofs.YtnimhpgacmojiaaGreatDoor
open Go.RowKit
namespace Ab
set_option maxRecDepth 100000
namespace Q
end Q
end Ab
end Go.Proofs.YtnimhpgacmojiaaGreatDoor
namespace Go.Proofs.YtnimhpgacmojiaaGreatDoor
open Go.RowKit
namespace Ab
set_option maxRecDepth 100000
namespace Q
def oneL (k : Nat) : List UInt8 := (List.replicate k [65, 58, 10]).flatten
def manyL (k : Nat) : List UInt8 := (List.replicate k [65, 58, 10, 10]).flatten
def PClean (p : PSt) (r : Int) : Prop := p.lns = [] ∧ p.blk = [] ∧ p.flds = [] ∧ p.recs = r
theorem linesR_cons (f : Nat) (tot no : Int) (a : UInt8) (r : List UInt8) : linesR (f + 1) tot no (a :: r) = (no, tot - ((a :: r).length : Nat), bytes (Lib.cut (a :: r) [10]).1, (Lib.cut (a :: r) [10]).2.2) :: linesR f tot (no + 1) (Lib.cut (a :: r) [10]).2.1 := rfl
end Q
end Ab
end Go.Proofs.YtnimhpgacmojiaaGreatDoor
namespace Go.Proofs.YtnimhpgacmojiaaGreatDoor
open Go.RowKit
namespace Ab
set_option maxRecDepth 100000
namespace Q
def linesB : Nat → List UInt8 → List (ByteArray × Bool)
  | 0, _ => []
  | f + 1, s => match s with
    | [] => []
    | s => (bytes (Lib.cut s [10]).1, (Lib.cut s [10]).2.2) :: linesB f (Lib.cut s [10]).2.1
def glue : List (ByteArray × Bool) → List UInt8
  | [] => []
  | l :: r => ls l.1 ++ ((if l.2 then [10] else []) ++ glue r)
theorem cut_cases {a : UInt8} {s : List UInt8} {c : UInt8} : (∃ x b, a :: s = x ++ c :: b ∧ c ∉ x ∧ Lib.cut (a :: s) [c] = (x, b, true)) ∨ (c ∉ a :: s ∧ Lib.cut (a :: s) [c] = (a :: s, [], false)) := by
  by_cases hm : c ∈ a :: s
  · obtain ⟨x, b, e, hn⟩ := List.eq_append_cons_of_mem hm
    exact .inl ⟨x, b, e, hn, by rw [e]; exact cut_at hn⟩
  · exact .inr ⟨hm, cut_none hm⟩
structure Rel (I : List Itm) (c : Int) (p q : PSt) : Prop where
  lns : p.lns = q.lns
  full : q.full = true → p.full = true
  its : p.its = I ++ q.its
  blk : p.blk = q.blk
  flds : p.flds = q.flds
  recs : p.recs = q.recs + c
  c0 : 0 ≤ c
  r4 : p.recs ≤ 400
  rf : p.flds ≠ [] → p.recs < 400
  rl : p.lns ≠ [] → p.full = false → p.recs < 400
section
variable {I : List Itm} {c : Int} {p q p1 : PSt}
end
end Q
end Ab
end Go.Proofs.YtnimhpgacmojiaaGreatDoor
namespace Go.Proofs.YtnimhpgacmojiaaGreatDoor
open Go.RowKit
namespace Ab
set_option maxRecDepth 100000
namespace Q
def szI (l : List Itm) : Nat := (l.map (·.2.1.size)).sum
def szB (l : List ByteArray) : Nat := (l.map (fun b => b.size + 1)).sum
def rawN (p : PSt) : Nat := szI p.its + szB p.blk
def Idle (p : PSt) : Prop := p.lns = [] ∧ p.blk = [] ∧ p.flds = []
def szL (L : List Lne) : Nat := (L.map (fun l => l.2.2.1.size + 1)).sum
end Q
end Ab
end Go.Proofs.YtnimhpgacmojiaaGreatDoor
namespace Go.Proofs.YtnimhpgacmojiaaGreatDoor
open Go.RowKit
namespace Ab
set_option maxRecDepth 100000
namespace Q
def more (l : Lne) : Bool := decide (kindL (ls l.2.2.1) = 3)
def saidL (l : Lne) (r : List Lne) : List ByteArray := l.2.2.1 :: (r.takeWhile more).map (·.2.2.1)
def wrongL (bh : Bool) (l : Lne) (r : List Lne) (fields recs : Int) : Int :=
  if kindL (ls l.2.2.1) = 5 ∨ (kindL (ls l.2.2.1) = 3 ∧ bh = false) ∨ l.2.2.2 = false then 2
  else if kindL (ls l.2.2.1) ≠ 4 then 0
  else if (unfoldL ((saidL l r).map ls)).2 ≠ 0 then (unfoldL ((saidL l r).map ls)).2
  else if 40 ≤ fields ∨ (fields = 0 ∧ 400 ≤ recs) then 11
  else 0
structure RSt where
  kind : Int
  raw : ByteArray
  flds : List Fld
  out : List Itm
  recs : Int
def fldOf (L : List ByteArray) : Fld := (bytes (unfoldL (L.map ls)).1.1, bytes (unfoldL (L.map ls)).1.2)
def stepR (t : RSt) (l : Lne) (r : List Lne) : RSt :=
  if kindL (ls l.2.2.1) = 1 then ⟨2, ByteArray.empty, [], (if t.raw = ByteArray.empty then t.out else t.out ++ [(t.kind, t.raw, t.flds)]) ++ [(1, l.2.2.1 ++ ⟨#[10]⟩, [])], t.recs⟩
  else if kindL (ls l.2.2.1) = 4 then ⟨3, t.raw ++ l.2.2.1 ++ ⟨#[10]⟩, t.flds ++ [fldOf (saidL l r)], t.out, if t.kind = 2 then t.recs + 1 else t.recs⟩
  else { t with raw := t.raw ++ l.2.2.1 ++ ⟨#[10]⟩ }
def runR (bh : Bool) (t : RSt) : List Lne → (Int × Int) ⊕ List Itm
  | [] => .inr (if t.raw = ByteArray.empty then t.out else t.out ++ [(t.kind, t.raw, t.flds)])
  | l :: r => if wrongL bh l r t.flds.length t.recs ≠ 0 then .inl (l.1, wrongL bh l r t.flds.length t.recs)
    else runR (decide (kindL (ls l.2.2.1) = 4) || decide (kindL (ls l.2.2.1) = 3)) (stepR t l r) r
def rst0 : RSt := ⟨2, ByteArray.empty, [], [], 0⟩
def outP (p : PSt) (L : List Lne) : (Int × Int) ⊕ List Itm := match runS p L with
  | .inl e => .inl e
  | .inr q => match endS q with
    | .inl e => .inl e
    | .inr q => .inr q.its
theorem outP_cons (p : PSt) (l : Lne) (r : List Lne) : outP p (l :: r) = match takeS p l with
    | .inl e => .inl e
    | .inr q => outP q r := by
  unfold outP
  simp only [runS]
  cases takeS p l <;> rfl
theorem parse_out (s : ByteArray) : parseS s = outP pst0 (linesT s) := rfl
def Ends : List Lne → Prop
  | [] => True
  | l :: r => (l.2.2.2 = false → r = []) ∧ Ends r
theorem ends_linesR : ∀ (f : Nat) (tot no : Int) (s : List UInt8), Ends (linesR f tot no s)
  | 0, _, _, _ => trivial
  | f + 1, _, _, [] => trivial
  | f + 1, tot, no, a :: r => by
    rw [linesR_cons]
    refine ⟨fun h => ?_, ends_linesR f _ _ _⟩
    rcases cut_cases (a := a) (s := r) (c := 10) with ⟨x, b, e, _, hc⟩ | ⟨_, hc⟩
    · rw [hc] at h; cases h
    · rw [hc]; cases f <;> rfl
theorem not_more {l : Lne} (h : kindL (ls l.2.2.1) ≠ 3) (r : List Lne) : (l :: r).takeWhile more = [] := by
  rw [List.takeWhile_cons_of_neg (by unfold more; simp [h])]
theorem is_more {l : Lne} (h : kindL (ls l.2.2.1) = 3) (r : List Lne) : (l :: r).takeWhile more = l :: r.takeWhile more := by
  rw [List.takeWhile_cons_of_pos (by unfold more; simp [h])]
theorem pend_err : ∀ (r : List Lne) (p : PSt) (at_ n : Int), Ends r → p.lns ≠ [] → (∀ q : PSt, q.lns = p.lns ++ (r.takeWhile more).map (·.2.2.1) → q.full = p.full → q.frm = p.frm → flushS q = .inl (at_, n)) → outP p r = .inl (at_, n)
  | [], p, at_, n, _, h0, hf => by
    have := hf p (by simp) rfl rfl
    unfold outP
    simp only [runS, endS, this]
  | l :: r, p, at_, n, hE, h0, hf => by
    rw [outP_cons]
    by_cases hm : kindL (ls l.2.2.1) = 3
    · rw [is_more hm] at hf
      by_cases he : l.2.2.2 = true
      · have ht : takeS p l = .inr { p with lns := p.lns ++ [l.2.2.1], blk := p.blk ++ [l.2.2.1] } := by
          unfold takeS
          simp only [hm]
          simp [aheadS, lineS, h0, he]
        rw [ht]
        exact pend_err r _ at_ n hE.2 (by simp) (fun q h1 h2 h3 => hf q (by rw [h1]; simp) h2 h3)
      · obtain rfl := hE.1 (by simpa using he)
        have hfp := hf { p with lns := p.lns ++ [l.2.2.1] } (by simp) rfl rfl
        have ht : takeS p l = .inl (at_, n) := by
          unfold takeS aheadS
          rw [if_pos hm, if_neg h0, if_neg he, hfp]
        rw [ht]
    · rw [not_more hm] at hf
      have hfp := hf p (by simp) rfl rfl
      have ht : takeS p l = .inl (at_, n) := by
        unfold takeS aheadS
        rw [if_neg hm]
        unfold endS
        rw [hfp]
        simp
      rw [ht]
def rawC (b : List ByteArray) : ByteArray := bytes (endL (b.map ls))
theorem rawC_snoc (b : List ByteArray) (x : ByteArray) : rawC (b ++ [x]) = rawC b ++ x ++ ⟨#[10]⟩ := by
  unfold rawC endL
  rw [List.map_append, List.flatMap_append, bytes_app, ByteArray.append_assoc]
  congr 1
  simp only [List.map_cons, List.map_nil, List.flatMap_cons, List.flatMap_nil, List.append_nil]
  rw [bytes_app, bytes_ls]
  rfl
theorem join_endL (c : UInt8) : ∀ (l : List (List UInt8)), l ≠ [] → Lib.join l [c] ++ [c] = l.flatMap fun s => s ++ [c]
  | [], h => absurd rfl h
  | [a], _ => by rw [Lib.join_one]; simp
  | a :: b :: r, _ => by
    have := join_endL c (b :: r) (by simp)
    rw [join_two, List.flatMap_cons, ← this]
    simp
theorem rawB_C {b : List ByteArray} (h : b ≠ []) : rawB b = rawC b := by
  unfold rawB rawC endL
  rw [show b.map ls = b.map (·.data.toList) from rfl, ← join_endL 10 (b.map (·.data.toList)) (by simpa using h), bytes_app]
  rfl
theorem rawC_nil {b : List ByteArray} : rawC b = ByteArray.empty ↔ b = [] := by
  refine ⟨fun h => ?_, fun h => by rw [h]; rfl⟩
  cases b with
  | nil => rfl
  | cons x r =>
    have := congrArg ByteArray.size h
    unfold rawC endL at this
    rw [bytes_size] at this
    simp at this
structure Alike (p : PSt) (t : RSt) (bh : Bool) (L : List Lne) : Prop where
  its : t.out = p.its
  raw : t.raw = rawC p.blk
  bh : bh = true ↔ p.lns ≠ []
  flds : t.flds = p.flds ++ (if p.lns = [] then [] else [fldOf (p.lns ++ (L.takeWhile more).map (·.2.2.1))])
  kind : t.kind = if t.flds = [] then 2 else 3
  recs : t.recs = p.recs + (if t.flds = [] then 0 else 1)
  pend : p.lns ≠ [] → p.full = false ∧ (unfoldL ((p.lns ++ (L.takeWhile more).map (·.2.2.1)).map ls)).2 = 0
  blk0 : p.blk = [] → t.flds = []
  r4 : p.recs ≤ 400
  rf : t.flds ≠ [] → p.recs < 400
  f40 : t.flds.length ≤ 40
section
variable {p : PSt} {t : RSt} {bh : Bool} {L : List Lne}
theorem alike_flush (h : Alike p t bh L) (hL : L.takeWhile more = []) : ∃ q, flushS p = .inr q ∧ q.lns = [] ∧ q.flds = t.flds ∧ q.its = p.its ∧ q.blk = p.blk ∧ q.recs = p.recs := by
  by_cases h0 : p.lns = []
  · refine ⟨p, by unfold flushS; rw [if_pos h0], h0, ?_, rfl, rfl, rfl⟩
    rw [h.flds, if_pos h0, List.append_nil]
  · obtain ⟨h1, h2⟩ := h.pend h0
    rw [hL, List.map_nil, List.append_nil] at h2
    refine ⟨{ p with flds := p.flds ++ [(bytes (unfoldL (p.lns.map ls)).1.1, bytes (unfoldL (p.lns.map ls)).1.2)], lns := [] }, ?_, rfl, ?_, rfl, rfl, rfl⟩
    · unfold flushS
      rw [if_neg h0, if_neg (by rw [h2]; simp), if_neg (by rw [h1]; simp)]
    · rw [h.flds, if_neg h0, hL]
      simp [fldOf]
theorem alike_end (h : Alike p t bh L) (hL : L.takeWhile more = []) : ∃ q, endS p = .inr q ∧ q.lns = [] ∧ q.flds = [] ∧ q.blk = [] ∧ q.its = (if t.raw = ByteArray.empty then t.out else t.out ++ [(t.kind, t.raw, t.flds)]) ∧ q.recs = t.recs := by
  obtain ⟨q, f1, f2, f3, f4, f5, f6⟩ := alike_flush h hL
  refine ⟨closeS q, by unfold endS; rw [f1], ?_⟩
  unfold closeS
  by_cases hb : p.blk = []
  · have hraw : t.raw = ByteArray.empty := by rw [h.raw]; exact rawC_nil.2 hb
    rw [if_pos (f5.trans hb), if_pos hraw]
    refine ⟨f2, rfl, rfl, by rw [h.its]; exact f4, ?_⟩
    rw [h.recs, if_pos (h.blk0 hb), Int.add_zero]
    exact f6
  · have hraw : ¬ t.raw = ByteArray.empty := fun e => hb (rawC_nil.1 (by rw [← h.raw]; exact e))
    rw [if_neg (by rw [f5]; exact hb), if_neg hraw]
    refine ⟨f2, rfl, rfl, ?_, ?_⟩
    · simp only [h.its, h.kind, h.raw, rawB_C hb, f3, f4, f5]
    · simp only [f3, f6]
      rw [h.recs]
      by_cases hf : t.flds = []
      · simp [hf]
      · simp [hf]
end
theorem run_eq : ∀ (L : List Lne) (p : PSt) (t : RSt) (bh : Bool), Ends L → Alike p t bh L → outP p L = runR bh t L
  | [], p, t, bh, _, h => by
    obtain ⟨q, e, _, _, _, h1, _⟩ := alike_end h rfl
    unfold outP
    simp only [runS, e, h1]
    rfl
  | l :: r, p, t, bh, hE, h => by
    rw [outP_cons]
    unfold runR
    by_cases h3 : kindL (ls l.2.2.1) = 3
    · by_cases hb : p.lns = []
      · have hbh : bh = false := by
          cases bh
          · rfl
          · exact absurd hb (h.bh.1 rfl)
        have hw : wrongL bh l r t.flds.length t.recs = 2 := by
          unfold wrongL
          rw [if_pos (.inr (.inl ⟨h3, hbh⟩))]
        have ht : takeS p l = .inl (l.1, 2) := by
          unfold takeS aheadS
          rw [if_pos h3, if_pos hb]
        rw [hw, ht]
        rfl
      · have hbh : bh = true := h.bh.2 hb
        obtain ⟨h5, h6⟩ := h.pend hb
        rw [is_more h3] at h6
        by_cases he : l.2.2.2 = true
        · have hw : wrongL bh l r t.flds.length t.recs = 0 := by
            unfold wrongL
            rw [if_neg (by simp [h3, hbh, he]), if_pos (by rw [h3]; decide)]
          have ht : takeS p l = .inr { p with lns := p.lns ++ [l.2.2.1], blk := p.blk ++ [l.2.2.1] } := by
            unfold takeS
            simp only [h3]
            simp [aheadS, lineS, hb, he]
          rw [hw, ht, if_neg (by decide)]
          refine run_eq r _ _ _ hE.2 ?_
          have hfl := h.flds
          rw [if_neg hb, is_more h3] at hfl
          have hne : t.flds ≠ [] := by rw [hfl]; simp
          unfold stepR
          rw [if_neg (by rw [h3]; decide), if_neg (by rw [h3]; decide)]
          exact ⟨h.its, by simp only [h.raw, rawC_snoc], by simp [h3], by simp only; rw [hfl, if_neg (by simp)]; simp, h.kind, h.recs, fun _ => ⟨h5, by simpa using h6⟩, fun e => by simp at e, h.r4, h.rf, h.f40⟩
        · have he' : l.2.2.2 = false := by simpa using he
          obtain rfl := hE.1 he'
          have hw : wrongL bh l [] t.flds.length t.recs = 2 := by
            unfold wrongL
            rw [if_pos (.inr (.inr he'))]
          have ht : takeS p l = .inl (l.1, 2) := by
            have : aheadS p l 3 = .inr { p with flds := p.flds ++ [(bytes (unfoldL ((p.lns ++ [l.2.2.1]).map ls)).1.1, bytes (unfoldL ((p.lns ++ [l.2.2.1]).map ls)).1.2)], lns := [] } := by
              unfold aheadS
              rw [if_pos rfl, if_neg hb, if_neg he]
              unfold flushS
              simp only [List.takeWhile_nil, List.map_cons, List.map_nil] at h6
              rw [if_neg (by simp), if_neg (by simp only [ne_eq, h6]; simp), if_neg (by simp [h5])]
            unfold takeS
            rw [h3, this]
            simp [lineS, he']
          rw [hw, ht]
          rfl
    · have hno := not_more h3 r
      by_cases h1 : kindL (ls l.2.2.1) = 1
      · obtain ⟨q, e, e1, e2, e3, e4, e5⟩ := alike_end h hno
        by_cases he : l.2.2.2 = true
        · have hw : wrongL bh l r t.flds.length t.recs = 0 := by
            unfold wrongL
            rw [if_neg (by simp [h1, he]), if_pos (by rw [h1]; decide)]
          have ht : takeS p l = .inr { q with its := q.its ++ [(1, l.2.2.1 ++ ⟨#[10]⟩, [])] } := by
            unfold takeS aheadS
            rw [if_neg h3, if_pos h1, e]
            simp [lineS, h1, he]
          rw [hw, ht, if_neg (by decide)]
          refine run_eq r _ _ _ hE.2 ?_
          unfold stepR
          rw [if_pos h1]
          refine ⟨by simp only [e4], by rw [e3]; rfl, by simp [h1, e1], by simp [e1, e2], rfl, by simp [e5], fun h => absurd e1 h, fun _ => rfl, ?_, fun e => absurd rfl e, by simp⟩
          simp only [e5, h.recs]
          split
          · have := h.r4; omega
          · rename_i hf; have := h.rf hf; omega
        · have he' : l.2.2.2 = false := by simpa using he
          have hw : wrongL bh l r t.flds.length t.recs = 2 := by
            unfold wrongL
            rw [if_pos (.inr (.inr he'))]
          have ht : takeS p l = .inl (l.1, 2) := by
            unfold takeS aheadS
            rw [if_neg h3, if_pos h1, e]
            simp [lineS, he']
          rw [hw, ht]
          rfl
      · obtain ⟨q, f1, f2, f3, f4, f5, f6⟩ := alike_flush h hno
        have hah : aheadS p l (kindL (ls l.2.2.1)) = .inr q := by
          unfold aheadS
          rw [if_neg h3, if_neg h1, f1]
        by_cases hbad : kindL (ls l.2.2.1) = 5 ∨ l.2.2.2 = false
        · have hw : wrongL bh l r t.flds.length t.recs = 2 := by
            unfold wrongL
            rw [if_pos (hbad.elim .inl (fun h => .inr (.inr h)))]
          have ht : takeS p l = .inl (l.1, 2) := by
            unfold takeS lineS
            rw [hah]
            simp only
            rw [if_pos hbad]
          rw [hw, ht]
          rfl
        · have hb5 : kindL (ls l.2.2.1) ≠ 5 := fun e => hbad (.inl e)
          have he : l.2.2.2 = true := by
            cases e : l.2.2.2
            · exact absurd (.inr e) hbad
            · rfl
          by_cases h4 : kindL (ls l.2.2.1) = 4
          · have ht : takeS p l = .inr { beginS q l with blk := q.blk ++ [l.2.2.1] } := by
              unfold takeS lineS
              rw [hah]
              simp only
              rw [if_neg hbad, if_neg h1, if_pos h4]
            have hfull : ((decide ((q.flds.length : Int) = 40) || (decide ((q.flds.length : Int) = 0) && decide (q.recs = 400))) = true) ↔ (40 ≤ (t.flds.length : Int) ∨ ((t.flds.length : Int) = 0 ∧ 400 ≤ t.recs)) := by
              have g1 := h.f40
              have g2 := h.r4
              have g3 := h.recs
              rw [f3, f6]
              simp only [Bool.or_eq_true, Bool.and_eq_true, decide_eq_true_eq]
              constructor
              · rintro (g | ⟨g, g'⟩)
                · exact .inl (by omega)
                · refine .inr ⟨g, ?_⟩
                  rw [if_pos (List.eq_nil_of_length_eq_zero (by omega))] at g3
                  omega
              · rintro (g | ⟨g, g'⟩)
                · exact .inl (by omega)
                · refine .inr ⟨g, ?_⟩
                  rw [if_pos (List.eq_nil_of_length_eq_zero (by omega))] at g3
                  omega
            rw [ht]
            by_cases hu : (unfoldL ((saidL l r).map ls)).2 = 0
            · by_cases hfu : 40 ≤ (t.flds.length : Int) ∨ ((t.flds.length : Int) = 0 ∧ 400 ≤ t.recs)
              · have hw : wrongL bh l r t.flds.length t.recs = 11 := by
                  unfold wrongL
                  rw [if_neg (by simp [h4, he]), if_neg (by simp [h4]), if_neg (by simp [hu]), if_pos hfu]
                rw [hw, if_pos (by decide)]
                refine pend_err r _ l.1 11 hE.2 (by simp [beginS]) (fun q' g1 g2 g3 => ?_)
                have g1' : q'.lns = saidL l r := g1
                have g2' : q'.full = true := g2.trans (hfull.2 hfu)
                have g3' : q'.frm = l.1 := g3
                unfold flushS
                rw [g1', if_neg (by unfold saidL; simp), if_neg (by simp [hu]), if_pos g2', g3']
              · have hw : wrongL bh l r t.flds.length t.recs = 0 := by
                  unfold wrongL
                  rw [if_neg (by simp [h4, he]), if_neg (by simp [h4]), if_neg (by simp [hu]), if_neg hfu]
                rw [hw, if_neg (by decide)]
                refine run_eq r _ _ _ hE.2 ?_
                have hff : (decide ((q.flds.length : Int) = 40) || (decide ((q.flds.length : Int) = 0) && decide (q.recs = 400))) = false := by
                  cases e : (decide ((q.flds.length : Int) = 40) || (decide ((q.flds.length : Int) = 0) && decide (q.recs = 400)))
                  · rfl
                  · exact absurd (hfull.1 e) hfu
                unfold stepR
                rw [if_neg h1, if_pos h4]
                refine ⟨by simp only [beginS, h.its, f4], by simp only [h.raw, rawC_snoc, f5], by simp [h4, beginS], ?_, by simp, ?_, fun _ => ⟨hff, hu⟩, fun e => by simp at e, ?_, fun _ => ?_, ?_⟩
                · simp only [beginS, f3]
                  rw [if_neg (by simp)]
                  rfl
                · simp only [beginS, f6]
                  have g3 := h.recs
                  have g4 := h.kind
                  by_cases hf : t.flds = []
                  · rw [if_pos hf] at g3 g4
                    rw [if_pos g4, if_neg (by simp), g3]
                    omega
                  · rw [if_neg hf] at g3 g4
                    rw [if_neg (by rw [g4]; decide), if_neg (by simp), g3]
                · simp only [beginS, f6]; exact h.r4
                · simp only [beginS, f6]
                  by_cases hf : t.flds = []
                  · have g3 := h.recs
                    rw [if_pos hf] at g3
                    have : ¬ 400 ≤ t.recs := fun e => hfu (.inr ⟨by rw [hf]; rfl, e⟩)
                    omega
                  · exact h.rf hf
                · rw [List.length_append, List.length_singleton]
                  have : ¬ 40 ≤ (t.flds.length : Int) := fun e => hfu (.inl e)
                  omega
            · have hw : wrongL bh l r t.flds.length t.recs = (unfoldL ((saidL l r).map ls)).2 := by
                unfold wrongL
                rw [if_neg (by simp [h4, he]), if_neg (by simp [h4]), if_pos hu]
              rw [hw, if_pos hu]
              refine pend_err r _ l.1 _ hE.2 (by simp [beginS]) (fun q' g1 g2 g3 => ?_)
              have g1' : q'.lns = saidL l r := g1
              have g3' : q'.frm = l.1 := g3
              unfold flushS
              rw [g1', if_neg (by unfold saidL; simp), if_pos hu, g3']
          · have hw : wrongL bh l r t.flds.length t.recs = 0 := by
              unfold wrongL
              rw [if_neg (by simp [h3, hb5, he]), if_pos h4]
            have ht : takeS p l = .inr { q with blk := q.blk ++ [l.2.2.1] } := by
              unfold takeS lineS
              rw [hah]
              simp only
              rw [if_neg hbad, if_neg h1, if_neg h4]
            rw [hw, ht, if_neg (by decide)]
            refine run_eq r _ _ _ hE.2 ?_
            unfold stepR
            rw [if_neg h1, if_neg h4]
            exact ⟨by simp only [h.its, f4], by simp only [h.raw, rawC_snoc, f5], by simp [h3, h4, f2], by simp [f2, f3], h.kind, by simp only [f6]; exact h.recs, fun e => absurd f2 e, fun e => by simp at e, by simp only [f6]; exact h.r4, by simp only [f6]; exact h.rf, h.f40⟩
theorem parse_ref (s : ByteArray) : parseS s = runR false rst0 (linesT s) := by
  rw [parse_out]
  exact run_eq _ _ _ _ (ends_linesR _ _ _ _) ⟨rfl, rfl, by simp [pst0], by simp [rst0, pst0], rfl, rfl, fun e => absurd rfl e, fun _ => rfl, by decide, fun e => absurd rfl e, by simp [rst0]⟩
end Q
end Ab
end Go.Proofs.YtnimhpgacmojiaaGreatDoor
namespace Go.Proofs.YtnimhpgacmojiaaGreatDoor
open Go.RowKit
namespace Ab
set_option maxRecDepth 100000
namespace Q
def mkL (t : ByteArray) : Lne := (0, 0, t, true)
def Ready (p : PSt) (F : List Fld) : Prop := ∃ q, flushS p = .inr q ∧ q.lns = [] ∧ q.flds = F ∧ q.its = p.its ∧ q.recs = p.recs ∧ q.blk = p.blk
def foldsL (a b : List Fld) (n : List UInt8) : List ByteArray := bytes (35 :: n) :: ((a.flatMap fun f => lineB f.1 f.2) ++ (⟨#[]⟩ :: ((b.flatMap fun f => lineB f.1 f.2) ++ [bytes (35 :: n)])))
end Q
end Ab
end Go.Proofs.YtnimhpgacmojiaaGreatDoor
namespace Go.Proofs.YtnimhpgacmojiaaGreatDoor
open Go.RowKit
namespace Ab
set_option maxRecDepth 100000
namespace Q
end Q
end Ab
end Go.Proofs.YtnimhpgacmojiaaGreatDoor
namespace Go.Proofs.YtnimhpgacmojiaaGreatDoor
open Go.RowKit
namespace Ab
set_option maxRecDepth 100000
namespace Q
end Q
end Ab
end Go.Proofs.YtnimhpgacmojiaaGreatDoor
namespace Go.Proofs.YtnimhpgacmojiaaGreatDoor
open Go.RowKit
namespace Ab
set_option maxRecDepth 100000
namespace Q
end Q
end Ab
end Go.Proofs.YtnimhpgacmojiaaGreatDoor
namespace Go.Proofs.YtnimhpgacmojiaaGreatDoor
open Go.RowKit
namespace Ab
set_option maxRecDepth 100000
namespace Q
structure SpI (s : ByteArray) (i at_ : Nat) (out : List Lne) : Prop where
  ai : at_ ≤ i
  is : i ≤ s.size
  no : (10 : UInt8) ∉ ((ls s).drop at_).take (i - at_)
  ol : out.length ≤ at_
  eq : ∃ f, ((ls s).drop at_).length ≤ f ∧ out ++ linesR f s.size out.length ((ls s).drop at_) = linesT s
def rawsL (l : List Itm) : List UInt8 := l.flatMap fun x => ls x.2.1
theorem getD_get {α : Type} {l : List α} {i : Nat} (h : i < l.length) (d : α) : l[i] = l.getD i d := by
  rw [List.getD_eq_getElem?_getD, List.getElem?_eq_getElem h]
  rfl
end Q
end Ab
end Go.Proofs.YtnimhpgacmojiaaGreatDoor
namespace Go.Proofs.YtnimhpgacmojiaaGreatDoor
open Go.RowKit
namespace Ab
set_option maxRecDepth 100000
namespace Q
def bhI (k : List Int) (i : Nat) : Bool := decide (0 < i) && (decide (k.getD (i - 1) 0 = 4) || decide (k.getD (i - 1) 0 = 3))
structure RI (L : List Lne) (k : List Int) (i : Nat) (t : RSt) : Prop where
  il : i ≤ L.length
  eq : runR false rst0 L = runR (bhI k i) t (L.drop i)
  r0 : 0 ≤ t.recs
  ri : t.recs ≤ i
  oi : t.out.length ≤ 2 * i
  fi : t.flds.length ≤ i
  rw_ : t.raw.size ≤ ((L.take i).map (fun l => l.2.2.1.size + 1)).sum
  rd : t.raw = ByteArray.empty ↔ t.raw.size = 0
def resR : (Int × Int) ⊕ List Itm → A
  | .inl e => .tup [(false, [.sl rItm []]), (false, [.lit (.int .i64 e.1)]), (false, [.lit (.int .i64 e.2)])]
  | .inr l => .tup [(false, [.sl rItm l]), (false, [.lit (.int .i64 (-9))]), (false, [.lit (.int .i64 0)])]
end Q
end Ab
end Go.Proofs.YtnimhpgacmojiaaGreatDoor
namespace Go.Proofs.YtnimhpgacmojiaaGreatDoor
open Go.RowKit
namespace Ab
set_option maxRecDepth 100000
namespace Q
abbrev rRow : Rd (List Fld) := .sl rFld
def recsL (l : List Itm) : List (List Fld) := (l.filter fun x => decide (x.1 = 3)).map (·.2.2)
def contP (p : PSt) : List UInt8 := rawsL p.its ++ endL (p.blk.map ls)
theorem items_flds {s : ByteArray} {l : List Itm} (hs : s.size ≤ 60000) (hp : parseS s = .inr l) : l.length ≤ 1000000 ∧ ∀ x ∈ l, x.2.2.length ≤ 1000000 := by
  have h0 := parse_ref s
  rw [hp] at h0
  obtain ⟨h1, _⟩ := linesT_len s
  have key : ∀ (L : List Lne) (t : RSt) (bh : Bool) (l : List Itm), runR bh t L = .inr l → l.length ≤ t.out.length + 1 + 2 * L.length ∧ ∀ (B : Nat), t.flds.length + L.length ≤ B → (∀ x ∈ t.out, x.2.2.length ≤ B) → ∀ x ∈ l, x.2.2.length ≤ B := by
    intro L
    induction L with
    | nil =>
      intro t bh l h
      unfold runR at h
      cases h
      refine ⟨by split <;> simp, fun B hB ho x hx => ?_⟩
      split at hx
      · exact ho x hx
      · rcases List.mem_append.1 hx with hx | hx
        · exact ho x hx
        · rw [List.mem_singleton.1 hx]; simpa using hB
    | cons a r ih =>
      intro t bh l h
      unfold runR at h
      split at h
      · cases h
      · obtain ⟨i1, i2⟩ := ih _ _ _ h
        have so : (stepR t a r).out.length ≤ t.out.length + 2 := by
          unfold stepR
          split
          · simp only; split <;> simp
          · split <;> simp
        have sf : (stepR t a r).flds.length ≤ t.flds.length + 1 := by
          unfold stepR
          split
          · simp
          · split <;> simp
        refine ⟨by rw [List.length_cons]; omega, fun B hB ho => i2 B (by rw [List.length_cons] at hB; omega) (fun x hx => ?_)⟩
        have hB2 : t.flds.length ≤ B := by omega
        unfold stepR at hx
        split at hx
        · simp only at hx
          rcases List.mem_append.1 hx with hx | hx
          · split at hx
            · exact ho x hx
            · rcases List.mem_append.1 hx with hx | hx
              · exact ho x hx
              · rw [List.mem_singleton.1 hx]; exact hB2
          · rw [List.mem_singleton.1 hx]; exact Nat.zero_le _
        · split at hx
          · exact ho x hx
          · exact ho x hx
  obtain ⟨k1, k2⟩ := key _ _ _ _ h0.symm
  refine ⟨by simp only [rst0, List.length_nil] at k1; omega, k2 1000000 (by simp only [rst0, List.length_nil]; omega) (fun x hx => by cases hx)⟩
end Q
end Ab
end Go.Proofs.YtnimhpgacmojiaaGreatDoor
namespace Go.Proofs.YtnimhpgacmojiaaGreatDoor
open Go.RowKit
namespace Ab
set_option maxRecDepth 100000
namespace Q
def apartK (k : Int) : List Itm → List Itm
  | [] => []
  | x :: r => if k ≠ 1 ∧ x.1 ≠ 1 then (1, ⟨#[10]⟩, []) :: x :: apartK x.1 r else x :: apartK x.1 r
def apartL (l : List Itm) : List Itm := apartK 1 l
def altK (k : Int) : List Itm → Prop
  | [] => True
  | x :: r => (k = 1 ∨ x.1 = 1) ∧ altK x.1 r
def lastK (k : Int) : List Itm → Int
  | [] => k
  | x :: r => lastK x.1 r
def AltP (p : PSt) : Prop := altK 1 p.its ∧ lastK 1 p.its = 1
end Q
end Ab
end Go.Proofs.YtnimhpgacmojiaaGreatDoor
namespace Go.Proofs.YtnimhpgacmojiaaGreatDoor
open Go.RowKit
namespace Ab
set_option maxRecDepth 100000
namespace Q
structure Fwd (I : List Itm) (c : Int) (p q : PSt) : Prop where
  lns : p.lns = q.lns
  full : q.lns ≠ [] → q.full = false → p.full = false
  its : p.its = I ++ q.its
  blk : p.blk = q.blk
  flds : p.flds = q.flds
  recs : p.recs = q.recs + c
  c0 : 0 ≤ c
section
variable {I : List Itm} {c : Int} {p q q1 : PSt}
end
def Blk (x : Itm) : Prop := ∃ (L : List Lne) (q qe : PSt), (∀ l ∈ L, l.2.2.2 = true ∧ (10 : UInt8) ∉ ls l.2.2.1) ∧ runS pst0 L = .inr q ∧ q.its = [] ∧ q.recs = 0 ∧ endS q = .inr qe ∧ qe.its = [x] ∧ glue (L.map (·.2.2)) = ls x.2.1
def Par (p : PSt) : Prop := ∃ (I : List Itm) (c : Int) (L : List Lne) (q : PSt), Rel I c p q ∧ runS pst0 L = .inr q ∧ q.its = [] ∧ q.recs = 0 ∧ (∀ l ∈ L, l.2.2.2 = true ∧ (10 : UInt8) ∉ ls l.2.2.1) ∧ ∀ x ∈ I, x.1 ≠ 1 → Blk x
theorem filter_at {α : Type} (p : α → Bool) (d : α) : ∀ (l : List α) (j : Nat), j < l.length → p (l.getD j d) = true → ((l.take j).filter p).length < (l.filter p).length ∧ (l.filter p).getD ((l.take j).filter p).length d = l.getD j d
  | [], j, h, _ => by simp at h
  | x :: r, 0, h, hp => by
    have hp : p x = true := by simpa using hp
    simp [hp]
  | x :: r, j + 1, h, hp => by
    obtain ⟨h1, h2⟩ := filter_at p d r j (by simpa using h) (by simpa using hp)
    rw [List.take_succ_cons, List.filter_cons, List.filter_cons]
    by_cases hx : p x = true
    · simp only [hx, if_true, List.length_cons, List.getD_cons_succ]
      exact ⟨by omega, h2⟩
    · simp only [hx, List.getD_cons_succ]
      exact ⟨h1, h2⟩
def mix1 (l : List Itm) (k : Nat) : List Itm := if k < l.length ∧ (l.getD k ((0 : Int), ByteArray.empty, ([] : List Fld))).1 ≠ 1 then [l.getD k ((0 : Int), ByteArray.empty, ([] : List Fld))] else []
def mixL (turn : Bool) (l m : List Itm) (i : Nat) : List Itm := (List.range i).flatMap fun k => mix1 l k ++ if turn then mix1 m k else []
end Q
end Ab
end Go.Proofs.YtnimhpgacmojiaaGreatDoor
namespace Go.Proofs.YtnimhpgacmojiaaGreatDoor
open Go.RowKit
namespace Ab
set_option maxRecDepth 100000
namespace Q
abbrev Ent := Itm × Int
abbrev rEnt : Rd Ent := .st rItm (.int .i64)
abbrev Lst := List Ent × Int × Int
abbrev rLst (k : Nat) : Rd Lst := .st (.slk k rEnt) (.st (.int .i64) (.int .i64))
abbrev Stz := Int × List Fld
abbrev rStz : Rd Stz := .st (.int .i64) (.sl rFld)
def isRec (x : Itm) : Bool := decide (x.1 = 3)
def cntR (l : List Itm) : Nat := (l.filter isRec).length
def numI (n : Int) : List Itm → List Ent
  | [] => []
  | x :: r => match isRec x with
    | true => (x, n) :: numI (n + 1) r
    | false => (x, 0) :: numI n r
theorem cntR_app (a b : List Itm) : cntR (a ++ b) = cntR a + cntR b := by simp [cntR]
theorem numI_snoc : ∀ (l : List Itm) (n : Int) (x : Itm), numI n (l ++ [x]) = numI n l ++ [(x, if isRec x then n + cntR l else 0)]
  | [], n, x => by
    cases h : isRec x <;> simp [numI, h, cntR]
  | y :: r, n, x => by
    have ih := fun m => numI_snoc r m x
    cases h : isRec y with
    | true =>
      have e : n + 1 + (cntR r : Int) = n + (cntR (y :: r) : Int) := by simp [cntR, h]; omega
      simp only [List.cons_append, numI, h, ih, e]
    | false =>
      have e : (cntR r : Int) = (cntR (y :: r) : Int) := by simp [cntR, h]
      simp only [List.cons_append, numI, h, ih, e]
theorem numI_len : ∀ (l : List Itm) (n : Int), (numI n l).length = l.length
  | [], _ => rfl
  | x :: r, n => by
    unfold numI
    split <;> simp [numI_len r]
def ofT (l : List Itm) : Lst := (numI 1 l, 1 + (cntR l : Int), (cntR l : Int))
def hasId (id : Int) (e : Ent) : Bool := decide (e.2 = id)
def atE (es : List Ent) (id : Int) : Int := if id < 1 then -1 else ixOf (hasId id) es
theorem at_cases (es : List Ent) (id : Int) : (atE es id = -1 ∧ ∀ e ∈ es, 0 < id → e.2 ≠ id) ∨ ∃ i : Nat, i < es.length ∧ atE es id = i ∧ 0 < id ∧ (es.getD i (((0 : Int), ByteArray.empty, ([] : List Fld)), (0 : Int))).2 = id ∧ ∀ e ∈ es.take i, e.2 ≠ id := by
  unfold atE
  by_cases h : id < 1
  · exact .inl ⟨if_pos h, fun e _ h0 => by omega⟩
  · rw [if_neg h]
    rcases ixOf_cases (hasId id) es (((0 : Int), ByteArray.empty, ([] : List Fld)), (0 : Int)) with ⟨h1, h2⟩ | ⟨i, h1, h2, h3, h4⟩
    · refine .inl ⟨h1, fun e he _ => ?_⟩
      have := List.any_eq_false.1 h2 e he
      simpa [hasId] using this
    · refine .inr ⟨i, h1, h2, by omega, by simpa [hasId] using h4, fun e he => ?_⟩
      have := List.any_eq_false.1 h3 e he
      simpa [hasId] using this
def replE (es : List Ent) (i : Nat) (x : Itm) : List Ent := es.set i (x, (es.getD i (((0 : Int), ByteArray.empty, ([] : List Fld)), (0 : Int))).2)
def delE (es : List Ent) (i : Nat) : List Ent := es.take i ++ es.drop (i + 1)
def insE (es : List Ent) (i : Nat) (e : Ent) : List Ent := es.take i ++ e :: es.drop i
def live (e : Ent) : Bool := decide (0 < e.2)
def stzOf (e : Ent) : Stz := (e.2, e.1.2.2)
def stzL (es : List Ent) : List Stz := (es.filter live).map stzOf
def itmL (es : List Ent) : List Itm := es.map (·.1)
def plcL (es : List Ent) (id : Int) : Int := ixOf (hasId id) (es.filter live)
def rowsL (es : List Ent) : List (List Fld) := (stzL es).map (·.2)
def getL (es : List Ent) (id : Int) : List Fld := (es.getD (atE es id).toNat (((0 : Int), ByteArray.empty, ([] : List Fld)), (0 : Int))).1.2.2
def rawL (es : List Ent) (id : Int) : ByteArray := (es.getD (atE es id).toNat (((0 : Int), ByteArray.empty, ([] : List Fld)), (0 : Int))).1.2.1
def txtL (es : List Ent) : List UInt8 := rawsL (apartL (itmL es))
end Q
end Ab
end Go.Proofs.YtnimhpgacmojiaaGreatDoor
namespace Go.Proofs.YtnimhpgacmojiaaGreatDoor
open Go.RowKit
namespace Ab
set_option maxRecDepth 100000
namespace Q
theorem cntR_at {l : List Itm} {i : Nat} (h : i < l.length) : cntR (l.take (i + 1)) = cntR (l.take i) + if isRec (l.getD i ((0 : Int), ByteArray.empty, ([] : List Fld))) then 1 else 0 := by
  rw [← take_snoc ((0 : Int), ByteArray.empty, ([] : List Fld)) h, cntR_app]
  generalize l.getD i ((0 : Int), ByteArray.empty, ([] : List Fld)) = x
  cases hk : isRec x
  · simp [cntR, hk]
  · simp [cntR, hk]
theorem numI_at {l : List Itm} {i : Nat} (h : i < l.length) : numI 1 (l.take (i + 1)) = numI 1 (l.take i) ++ [(l.getD i ((0 : Int), ByteArray.empty, ([] : List Fld)), if isRec (l.getD i ((0 : Int), ByteArray.empty, ([] : List Fld))) then 1 + (cntR (l.take i) : Int) else 0)] := by
  rw [← take_snoc ((0 : Int), ByteArray.empty, ([] : List Fld)) h]
  exact numI_snoc (l.take i) 1 _
theorem cntR_le (l : List Itm) : cntR l ≤ l.length := List.length_filter_le _ _
def lsO (l : Lst) : Obs := [(0, .box 125 [.vec 1, .lit (.int .i64 l.2.1), .lit (.int .i64 l.2.2)]), (1, .vec 127 rEnt l.1)]
theorem lbox_eq {a b c d : Int} (h1 : a = c) (h2 : b = d) : some (Ob.box 125 [.vec 1, .lit (.int .i64 a), .lit (.int .i64 b)]) = some (Ob.box 125 [.vec 1, .lit (.int .i64 c), .lit (.int .i64 d)]) := by rw [h1, h2]
theorem of_ok (s : ByteArray) (hs : s.size ≤ 60000) {l : List Itm} (hp : parseS s = .inr l) : ACallO Tryz.prog 23 [is s] [] 0 (.tup [(false, [.own 0 0]), (false, [.lit .nilIface])]) (lsO (ofT l)) 2 := by
  have hpa := parse_a s hs
  rw [hp] at hpa
  obtain ⟨hl1, hl2⟩ := items_flds hs hp
  refine acallo_of (rs := [2, 3]) Tryz.func23 rfl rfl rfl teOk (by decide) rfl ?_
  refine acode_seq ?_
  refine acode_region ?_
  refine acode_seq ?_
  refine acode_region ?_
  refine Or.inl ?_
  refine And.intro (rfl) ?_
  refine Exists.intro _ (And.intro (hpa) ?_)
  refine acode_seq ?_
  refine acode_seq ?_
  refine acode_region ?_
  refine acode_cond rfl (fun h16 => ?_) (fun h16 => ?_)
  ·try simp only [Bool.not_eq_true'] at h16
   try simp only [Int.toNat_natCast, dflt_sl, dflt_st, dflt_str, dflt_int, dflt_bool] at h16
   cases h16
  ·try simp only [Bool.not_eq_false'] at h16
   try simp only [Int.toNat_natCast, dflt_sl, dflt_st, dflt_str, dflt_int, dflt_bool] at h16
   refine acode_skip ?_
   refine acode_seq ?_
   refine acode_region ?_
   refine acode_seq ?_
   refine acode_seq ?_
   refine acode_nilcell 0 0 127 rEnt rfl rfl rfl ?_
   refine acode_region ?_
   intro l5_1
   try simp only [Int.toNat_natCast, dflt_sl, dflt_st, dflt_str, dflt_int, dflt_bool] at l5_1
   refine acode_block ?_
   refine acode_loopP (fun (i : Nat) => i ≤ l.length) (fun (i : Nat) => [(0, is s), (6, .one (.own 0 0)), (20, .one (.sl rItm l)), (21, ii .i64 l.length), (22, ii .i64 i)]) (fun (i : Nat) => [(0, .box 125 [.vec 1, .lit (.int .i64 (1 + (cntR (l.take i) : Int))), .lit (.int .i64 (cntR (l.take i)))]), (1, .vec 127 rEnt (numI 1 (l.take i)))]) 2 (fun (i : Nat) => l.length - i) 0 (Nat.zero_le _) (le_of ⟨rfl, rfl, rfl, rfl, rfl⟩ ⟨rfl, rfl⟩ rfl) ?_
   intro i hI0
   refine acode_seq ?_
   refine acode_region ?_
   refine acode_seq ?_
   refine acode_cond rfl (fun h23 => ?_) (fun h23 => ?_)
   ·try simp only [decide_eq_true_eq] at h23
    try simp only [Int.toNat_natCast, dflt_sl, dflt_st, dflt_str, dflt_int, dflt_bool] at h23
    have hil : i < l.length := (by omega)
    have hsn := numI_at hil
    have hcn := cntR_at hil
    have hcl := cntR_le (l.take i)
    rw [List.length_take] at hcl
    refine acode_skip ?_
    refine acode_seq ?_
    refine acode_block ?_
    refine acode_seq ?_
    refine acode_region ?_
    refine And.intro (by first | omega | assumption | decide | (simp only [Int.toNat_natCast, dflt_sl, dflt_st, dflt_str, dflt_int, dflt_bool]; omega) | (simp <;> omega)) ?_
    refine acode_seq ?_
    refine acode_region ?_
    refine acode_seq ?_
    refine acode_seq ?_
    refine acode_region ?_
    refine acode_cond rfl (fun h30 => ?_) (fun h30 => ?_)
    ·try simp only [decide_eq_true_eq] at h30
     try simp only [Int.toNat_natCast, dflt_sl, dflt_st, dflt_str, dflt_int] at h30
     have hk : isRec (l.getD i ((0 : Int), ByteArray.empty, ([] : List Fld))) = true := decide_eq_true h30
     rw [hk, if_pos rfl] at hsn hcn
     refine acode_seq ?_
     refine acode_region ?_
     refine acode_seq ?_
     refine acode_region ?_
     refine And.intro (by first | omega | assumption | decide | (simp only [Int.toNat_natCast, dflt_sl, dflt_st, dflt_str, dflt_int, dflt_bool]; omega) | (simp <;> omega)) ?_
     refine acode_region ?_
     refine And.intro (by first | omega | assumption | decide | (simp only [Int.toNat_natCast, dflt_sl, dflt_st, dflt_str, dflt_int, dflt_bool]; omega) | (simp <;> omega)) ?_
     refine acode_ord rfl ?_
     refine aord_light 0 rfl rfl rfl (by kernel_rfl) ?_
     refine aord_light 1 rfl rfl rfl (by kernel_rfl) ?_
     refine aord_light 2 rfl rfl rfl (by kernel_rfl) ?_
     refine aord_light 3 rfl rfl rfl (by kernel_rfl) ?_
     refine aord_all [4, 5] (by kernel_rfl) rfl ?_
     refine And.intro ?_ ?_
     ·refine aord_all [5] (by kernel_rfl) rfl ?_
      refine aord_all [6] (by kernel_rfl) rfl ?_
      refine aord_all [7] (by kernel_rfl) rfl ?_
      refine And.intro (by exact app_le (show (numI 1 (l.take i)).length + 1 ≤ 1000000000 by rw [numI_len, List.length_take]; omega) (by decide)) ?_
      refine aord_light 8 rfl rfl rfl (by kernel_rfl) ?_
      refine aord_light 9 rfl rfl rfl (by kernel_rfl) ?_
      refine aord_all [10] (by kernel_rfl) rfl ?_
      refine aord_done (by kernel_rfl) ?_
      refine acode_region ?_
      refine And.intro (by first | omega | assumption | decide | (simp only [Int.toNat_natCast, dflt_sl, dflt_st, dflt_str, dflt_int, dflt_bool]; omega) | (simp <;> omega)) ?_
      exact ⟨i + 1, by omega, by first | omega | (simp <;> omega), le_of ⟨rfl, rfl, rfl, rfl, rfl⟩ ⟨(lbox_eq (by omega) (by omega)), (vec_eq (by rw [hsn]; exact rfl))⟩ rfl⟩
     ·refine aord_all [4, 6] (by kernel_rfl) rfl ?_
      refine And.intro ?_ ?_
      ·refine aord_all [6] (by kernel_rfl) rfl ?_
       refine aord_all [7] (by kernel_rfl) rfl ?_
       refine And.intro (by exact app_le (show (numI 1 (l.take i)).length + 1 ≤ 1000000000 by rw [numI_len, List.length_take]; omega) (by decide)) ?_
       refine aord_light 8 rfl rfl rfl (by kernel_rfl) ?_
       refine aord_light 9 rfl rfl rfl (by kernel_rfl) ?_
       refine aord_all [10] (by kernel_rfl) rfl ?_
       refine aord_done (by kernel_rfl) ?_
       refine acode_region ?_
       refine And.intro (by first | omega | assumption | decide | (simp only [Int.toNat_natCast, dflt_sl, dflt_st, dflt_str, dflt_int, dflt_bool]; omega) | (simp <;> omega)) ?_
       exact ⟨i + 1, by omega, by first | omega | (simp <;> omega), le_of ⟨rfl, rfl, rfl, rfl, rfl⟩ ⟨(lbox_eq (by omega) (by omega)), (vec_eq (by rw [hsn]; exact rfl))⟩ rfl⟩
      ·refine aord_all [4] (by kernel_rfl) rfl ?_
       refine aord_all [7] (by kernel_rfl) rfl ?_
       refine And.intro (by exact app_le (show (numI 1 (l.take i)).length + 1 ≤ 1000000000 by rw [numI_len, List.length_take]; omega) (by decide)) ?_
       refine aord_light 8 rfl rfl rfl (by kernel_rfl) ?_
       refine aord_light 9 rfl rfl rfl (by kernel_rfl) ?_
       refine aord_all [10] (by kernel_rfl) rfl ?_
       refine aord_done (by kernel_rfl) ?_
       refine acode_region ?_
       refine And.intro (by first | omega | assumption | decide | (simp only [Int.toNat_natCast, dflt_sl, dflt_st, dflt_str, dflt_int, dflt_bool]; omega) | (simp <;> omega)) ?_
       exact ⟨i + 1, by omega, by first | omega | (simp <;> omega), le_of ⟨rfl, rfl, rfl, rfl, rfl⟩ ⟨(lbox_eq (by omega) (by omega)), (vec_eq (by rw [hsn]; exact rfl))⟩ rfl⟩
    ·try simp only [decide_eq_false_iff_not] at h30
     try simp only [Int.toNat_natCast, dflt_sl, dflt_st, dflt_str, dflt_int] at h30
     have hk : isRec (l.getD i ((0 : Int), ByteArray.empty, ([] : List Fld))) = false := decide_eq_false h30
     rw [hk, if_neg Bool.false_ne_true] at hsn hcn
     refine acode_skip ?_
     refine acode_ord rfl ?_
     refine aord_light 0 rfl rfl rfl (by kernel_rfl) ?_
     refine aord_light 1 rfl rfl rfl (by kernel_rfl) ?_
     refine aord_light 2 rfl rfl rfl (by kernel_rfl) ?_
     refine aord_light 3 rfl rfl rfl (by kernel_rfl) ?_
     refine aord_all [4, 5] (by kernel_rfl) rfl ?_
     refine And.intro ?_ ?_
     ·refine aord_all [5] (by kernel_rfl) rfl ?_
      refine aord_all [6] (by kernel_rfl) rfl ?_
      refine aord_all [7] (by kernel_rfl) rfl ?_
      refine And.intro (by exact app_le (show (numI 1 (l.take i)).length + 1 ≤ 1000000000 by rw [numI_len, List.length_take]; omega) (by decide)) ?_
      refine aord_light 8 rfl rfl rfl (by kernel_rfl) ?_
      refine aord_light 9 rfl rfl rfl (by kernel_rfl) ?_
      refine aord_all [10] (by kernel_rfl) rfl ?_
      refine aord_done (by kernel_rfl) ?_
      refine acode_region ?_
      refine And.intro (by first | omega | assumption | decide | (simp only [Int.toNat_natCast, dflt_sl, dflt_st, dflt_str, dflt_int, dflt_bool]; omega) | (simp <;> omega)) ?_
      exact ⟨i + 1, by omega, by first | omega | (simp <;> omega), le_of ⟨rfl, rfl, rfl, rfl, rfl⟩ ⟨(lbox_eq (by omega) (by omega)), (vec_eq (by rw [hsn]; exact rfl))⟩ rfl⟩
     ·refine aord_all [4, 6] (by kernel_rfl) rfl ?_
      refine And.intro ?_ ?_
      ·refine aord_all [6] (by kernel_rfl) rfl ?_
       refine aord_all [7] (by kernel_rfl) rfl ?_
       refine And.intro (by exact app_le (show (numI 1 (l.take i)).length + 1 ≤ 1000000000 by rw [numI_len, List.length_take]; omega) (by decide)) ?_
       refine aord_light 8 rfl rfl rfl (by kernel_rfl) ?_
       refine aord_light 9 rfl rfl rfl (by kernel_rfl) ?_
       refine aord_all [10] (by kernel_rfl) rfl ?_
       refine aord_done (by kernel_rfl) ?_
       refine acode_region ?_
       refine And.intro (by first | omega | assumption | decide | (simp only [Int.toNat_natCast, dflt_sl, dflt_st, dflt_str, dflt_int, dflt_bool]; omega) | (simp <;> omega)) ?_
       exact ⟨i + 1, by omega, by first | omega | (simp <;> omega), le_of ⟨rfl, rfl, rfl, rfl, rfl⟩ ⟨(lbox_eq (by omega) (by omega)), (vec_eq (by rw [hsn]; exact rfl))⟩ rfl⟩
      ·refine aord_all [4] (by kernel_rfl) rfl ?_
       refine aord_all [7] (by kernel_rfl) rfl ?_
       refine And.intro (by exact app_le (show (numI 1 (l.take i)).length + 1 ≤ 1000000000 by rw [numI_len, List.length_take]; omega) (by decide)) ?_
       refine aord_light 8 rfl rfl rfl (by kernel_rfl) ?_
       refine aord_light 9 rfl rfl rfl (by kernel_rfl) ?_
       refine aord_all [10] (by kernel_rfl) rfl ?_
       refine aord_done (by kernel_rfl) ?_
       refine acode_region ?_
       refine And.intro (by first | omega | assumption | decide | (simp only [Int.toNat_natCast, dflt_sl, dflt_st, dflt_str, dflt_int, dflt_bool]; omega) | (simp <;> omega)) ?_
       exact ⟨i + 1, by omega, by first | omega | (simp <;> omega), le_of ⟨rfl, rfl, rfl, rfl, rfl⟩ ⟨(lbox_eq (by omega) (by omega)), (vec_eq (by rw [hsn]; exact rfl))⟩ rfl⟩
   ·try simp only [decide_eq_false_iff_not, Int.not_lt] at h23
    try simp only [Int.toNat_natCast, dflt_sl, dflt_st, dflt_str, dflt_int, dflt_bool] at h23
    refine acode_exit ?_
    refine acode_seq ?_
    refine acode_region ?_
    refine acode_ret ?_
    rw [List.take_of_length_le (by omega)]
    exact ⟨rfl, ⟨rfl, rfl⟩, rfl⟩
end Q
end Ab
end Go.Proofs.YtnimhpgacmojiaaGreatDoor
namespace Go.Proofs.YtnimhpgacmojiaaGreatDoor
open Go.RowKit
namespace Ab
set_option maxRecDepth 100000
set_option maxHeartbeats 2000000
namespace Q
abbrev z4 : List Value := [.int .i64 0, .string ⟨#[]⟩, .slice none 0 0, .int .i64 0]
theorem step_append_runI {P : Program} {ops : Array Oper} {o : Oper} {a : Act} {w : World} {K : Act → World → Prop} {Q : Exit → Act → World → Prop} {E : Prop}
    (hg : o.guard = none) (d x : Operand) (dT sT : TypeId) (hop : o.op = Op.call { callee := Callee.builtin Builtin.append, args := #[d, x], argTypes := #[dT, sT] })
    (v u : Value) (hd : a.eval d = v) (hx : a.eval x = u) {v' : Value} {w' : World} (hr : (Builtin.append_ #[dT, sT] o.type #[v, u]).run P w = .ok v' w') (hK : K (a.put o.dst v') w') :
    if Region.wanted o (yielded ops a.tmps) = true then Oper.wp P o a w K Q else E := by
  have hw : Region.wanted o (yielded ops a.tmps) = true := by simp [Region.wanted, hg]
  rw [if_pos hw]
  unfold Oper.wp
  simp [execOp, hop, resolve, invoke, builtin, hd, hx, hr, Result.andThen]
  exact hK
theorem wpList_clear_runI {P : Program} (w : World) {ops : Array Oper} {rest : List Oper} {o : Oper} {a : Act} {Q : Exit → Act → World → Prop} (hgd : o.guard = none) (d : Operand) (t : TypeId)
    (ho : o.op = .call { callee := .builtin .clear, args := #[d], argTypes := #[t] }) (v : Value) (hd : a.eval d = v) {v' : Value} {w' : World}
    (hr : (Builtin.clear_ #[t] o.type #[v]).run P w = .ok v' w') (h : wpList P ops Q rest (a.put o.dst v') w') : wpList P ops Q (o :: rest) a w :=
  wpList_plain hgd fun K hK => by
    unfold Oper.wp execOp
    simp only [ho, resolve, invoke, builtin, Sem.run_bind, Sem.run_pure, Result.andThen_ok, List.map_toArray, List.map_cons, List.map_nil, hd, hr]
    exact hK _ _ h
theorem zs_len {P : Program} {t : TypeId} {i : TyI} (h : TyOk P t i) (n : Nat) : (Builtin.zeroCells i.zeroV.cells n).toList.length = n * i.size := by
  rw [Array.length_toList, size_zeroCells, h.zeroCells, List.size_toArray, h.zlen]
theorem zs_one {P : Program} {t : TypeId} {i : TyI} (h : TyOk P t i) (n : Nat) : ∀ v ∈ (Builtin.zeroCells i.zeroV.cells n).toList, v.oneCell' = true := by
  intro v hv
  unfold Builtin.zeroCells at hv
  rw [h.zeroCells] at hv
  simp only [Array.toList_map, Array.toList_range, List.mem_map, List.mem_range, List.size_toArray] at hv
  obtain ⟨k, hk, rfl⟩ := hv
  have hlt : k % i.zero.length < i.zero.length := Nat.mod_lt _ (by
    rcases Nat.eq_zero_or_pos i.zero.length with h0 | h0
    · rw [h0, Nat.mul_zero] at hk; omega
    · exact h0)
  have e : (i.zero.toArray)[k % i.zero.length]! = i.zero[k % i.zero.length] := by simp [hlt]
  rw [e]
  exact plain_one (h.zplain _ (List.getElem_mem hlt))
theorem run_clear_row {P : Program} {t e ty : TypeId} {ei : TyI} (ht : P.underlying t = some (.slice e)) (he : TyOk P e ei) (w : World) (b o n c : Nat) {cur : Array Value} {T : TypeId} (hb : w.heap[b]? = some (.cells cur T (0, 0))) (hn : 0 < n) (hfit : o + n * ei.size ≤ cur.size) :
    (Builtin.clear_ #[t] ty #[.slice (some ⟨b, o, none⟩) n c]).run P w = .ok (.tuple #[]) (w.setRow b (cur.toList.take o ++ (Builtin.zeroCells ei.zeroV.cells n).toList ++ cur.toList.drop (o + n * ei.size)).toArray) := by
  have hst := run_storeCells_at P b o T (Builtin.zeroCells ei.zeroV.cells n).toList 0 cur w hb (by rw [zs_len he]; omega) (zs_one he n)
  simp only [Nat.add_zero, zs_len he] at hst
  obtain ⟨m, rfl⟩ : ∃ m, n = m + 1 := ⟨n - 1, by omega⟩
  simp [Builtin.clear_, run_underlying ht, he.zeroValue, hst]
theorem tyEnt : TyOk Tryz.prog 127 ty127 := tyOk127
theorem del_w (b cap n i j : Nat) (cur : Array Value) (w : World) (hb : w.heap[b]? = some (.cells cur 127 (0, 0))) (hcs : cur.size = cap * 4) (hnc : n ≤ cap) (_hcm : cap ≤ maxLen) (hij : i < j) (hj : j ≤ n) (h1 : ∀ v ∈ cur.toList.take (n * 4), v.oneCell' = true) :
    Calls Tryz.prog 67 #[.slice (some ⟨b, 0, none⟩) n cap, .int .i64 i, .int .i64 j] w fun e w' => e = .returned (.slice (some ⟨b, 0, none⟩) (n - (j - i)) cap) ∧ ∃ cur', Grew w w' (some b) ∧ w'.heap[b]? = some (.cells cur' 127 (0, 0)) ∧ cur'.size = cap * 4 ∧ cur'.toList.take ((n - (j - i)) * 4) = cur.toList.take (i * 4) ++ (cur.toList.drop (j * 4)).take ((n - j) * 4) := by
  have mixed : Tryz.prog.follows .mixedOrders = true := by kernel_rfl
  have hic : i ≤ cap := by omega
  have hjc : j ≤ cap := by omega
  obtain ⟨news, hnews⟩ : ∃ news, (cur.toList.drop (j * 4)).take ((n - j) * 4) = news := ⟨_, rfl⟩
  have hlen : news.length = (n - j) * 4 := by
    rw [← hnews, List.length_take, List.length_drop, Array.length_toList, hcs]
    have : (n - j) * 4 ≤ cap * 4 - j * 4 := by omega
    omega
  obtain ⟨i0, hi0, hz0, hz1, hz2⟩ := tyEnt.info
  obtain ⟨A, hA, hsrc⟩ : ∃ A : Addr, (if cap = j then (some ⟨b, 0, none⟩ : Option Addr) else some ⟨b, j * 4, none⟩) = some A ∧ (∀ t u, news[t]? = some u → w.drew.cell? (A.add t) = some u) := by
    by_cases h : cap = j
    · refine ⟨_, if_pos h, fun t u hu => ?_⟩
      have h0 : news.length = 0 := by rw [hlen]; omega
      rw [List.length_eq_zero_iff.1 h0] at hu
      simp at hu
    · refine ⟨_, if_neg h, fun t u hu => ?_⟩
      have ht := (List.getElem?_eq_some_iff.1 hu).1
      rw [← hnews, List.getElem?_take_of_lt (by omega), List.getElem?_drop] at hu
      rw [Go.WideShapes.add_plain]
      show w.cell? _ = _
      simp only [World.cell?, hb, Option.isSome_none, Bool.false_eq_true, if_false]
      rw [← hu]; simp
  have hone : ∀ u ∈ news, u.oneCell' = true := by
    intro u hu
    rw [← hnews, show (n - j) * 4 = n * 4 - j * 4 by omega, ← List.drop_take] at hu
    exact h1 u (List.mem_of_mem_drop hu)
  obtain ⟨cur1, hcur1⟩ : ∃ c : Array Value, (cur.toList.take (i * 4) ++ news ++ cur.toList.drop (i * 4 + news.length)).toArray = c := ⟨_, rfl⟩
  have hsz1 : cur1.size = cap * 4 := by
    rw [← hcur1]
    simp only [List.size_toArray, List.length_append, List.length_take, List.length_drop, Array.length_toList, hcs, hlen]
    omega
  obtain ⟨W1, hW1⟩ : ∃ W1, w.drew.setRow b cur1 = W1 := ⟨_, rfl⟩
  have hap : ∀ ty, (Builtin.append_ #[123, 123] ty #[.slice (some ⟨b, 0, none⟩) i cap, .slice (some A) (n - j) (cap - j)]).run Tryz.prog w.drew = .ok (.slice (some ⟨b, 0, none⟩) (i + (n - j)) cap) W1 := by
    intro ty
    have := run_append_room (P := Tryz.prog) w.drew 123 ty 127 i0 Tryz.underlying123 hi0 b i cap cur hb A (n - j) (cap - j) news (by rw [hlen, hz0]; rfl) hsrc hone (by omega) (by rw [hz0, hlen, hcs]; show i * 4 + _ ≤ _; omega)
    rw [show i0.size = 4 from hz0, hcur1, hW1] at this
    exact this
  have hb1 : W1.heap[b]? = some (.cells cur1 127 (0, 0)) := by rw [← hW1]; exact setRow_heap w.drew b cur cur1 _ _ hb
  have hk : i + (n - j) < n := by omega
  have hkc : ¬ cap = i + (n - j) := by omega
  obtain ⟨W2, cur2, hW2, hcl⟩ : ∃ W2 cur2, W2 = W1.setRow b cur2 ∧ cur2.size = cap * 4 ∧ cur2.toList.take ((i + (n - j)) * 4) = cur1.toList.take ((i + (n - j)) * 4) ∧ ∀ ty, (Builtin.clear_ #[123] ty #[.slice (some ⟨b, (i + (n - j)) * 4, none⟩) (n - (i + (n - j))) (cap - (i + (n - j)))]).run Tryz.prog W1 = .ok (.tuple #[]) W2 := by
    have hz := zs_len tyEnt (n - (i + (n - j)))
    have hz4 : ty127.size = 4 := rfl
    rw [hz4] at hz
    refine ⟨_, _, rfl, ?_, ?_, fun ty => run_clear_row Tryz.underlying123 tyEnt W1 b _ _ _ hb1 (by omega) (by rw [hsz1, hz4]; omega)⟩
    · simp only [List.size_toArray, List.length_append, List.length_take, List.length_drop, Array.length_toList, hsz1, hz, hz4]
      omega
    · rw [List.append_assoc, List.take_append_of_le_length (by rw [List.length_take, Array.length_toList, hsz1]; omega), List.take_take, Nat.min_self]
  obtain ⟨hsz2, htk, hcl⟩ := hcl
  have fin : W2.heap[b]? = some (.cells cur2 127 (0, 0)) ∧ Grew w W2 (some b) := by
    rw [hW2]
    exact ⟨setRow_heap W1 b cur1 cur2 _ _ hb1, by rw [← hW1, setRow_setRow]; exact ⟨rfl, rfl, rfl, by simp, fun k hk hne => setRow_other w.drew b k _ (fun e => hne (by rw [e]))⟩⟩
  have hres : cur2.toList.take ((i + (n - j)) * 4) = cur.toList.take (i * 4) ++ news := by
    rw [htk, ← hcur1, List.take_append_of_le_length (by simp only [List.length_append, List.length_take, Array.length_toList, hcs, hlen]; omega), List.take_of_length_le (by simp only [List.length_append, List.length_take, Array.length_toList, hcs, hlen]; omega)]
  have hnn : n - (j - i) = i + (n - j) := by omega
  rw [hnn]
  rw [← hnews] at hres
  clear hW2 hW1 htk hcur1 hb hb1 hsrc hone hlen hnews h1
  go_enter Tryz.func67, Tryz.ntmps67
  go_wp2
  go_region_law_o (refine step_append_runI rfl (.tmp 22) (.tmp 25) 123 123 rfl (.slice (some ⟨b, 0, none⟩) i cap) (.slice (some A) (n - j) (cap - j)) (by simp [Act.eval, Act.put]) (by simp [Act.eval, Act.put]) (hap _) ?_)
  go_wp2_with (at_builtin; refine wpList_clear_runI _ rfl _ _ rfl _ rfl (hcl _) ?_)
  go_ret
  exact ⟨rfl, cur2, fin.2, fin.1, hsz2, hres⟩
end Q
end Ab
end Go.Proofs.YtnimhpgacmojiaaGreatDoor
namespace Go.Proofs.YtnimhpgacmojiaaGreatDoor
open Go.RowKit
namespace Ab
set_option maxRecDepth 100000
set_option maxHeartbeats 4000000
namespace Q
def RowTo (w w' : World) (v u : Value) (n : Nat) (cs : List Value) : Prop :=
  w'.ownsRow 0 127 4 u n cs ∧ Grew w w' (blk (some v)) ∧ (∀ b, blk (some u) = some b → blk (some v) = some b ∨ (w.heap.size ≤ b ∧ b < w'.heap.size)) ∧ ∃ a n c, u = .slice a n c
theorem rowCells {w : World} {b n cap : Nat} {cs : List Value} (h : w.ownsRow 0 127 4 (.slice (some ⟨b, 0, none⟩) n cap) n cs) : ∃ cur, w.heap[b]? = some (.cells cur 127 (0, 0)) ∧ n ≤ cap ∧ cap ≤ maxLen ∧ cur.size = cap * 4 ∧ cur.toList.take (n * 4) = cs ∧ cs.length = n * 4 := by
  rcases h.2 with ⟨h0, _⟩ | ⟨g, c, cur, hsl, _, hg, hnc, hcm, hcs, htake⟩
  · cases h0
  · injection hsl with e1 e2 e3
    injection e1 with e1
    injection e1 with e1 _ _
    subst e1 e3
    exact ⟨cur, hg, hnc, hcm, hcs, htake, h.1⟩
theorem take4 {α : Type} (l : List α) (a b : Nat) (h : a ≤ b) : (l.take b).take a = l.take a := by rw [List.take_take, Nat.min_eq_left h]
end Q
end Ab
end Go.Proofs.YtnimhpgacmojiaaGreatDoor
namespace Go.Proofs.YtnimhpgacmojiaaGreatDoor
open Go.RowKit
namespace Ab
set_option maxRecDepth 100000
namespace Q
theorem flat_take {n : Nat} : ∀ (css : List (List Value)) (k : Nat), (∀ c ∈ css, c.length = n) → (css.take k).flatten = css.flatten.take (k * n)
  | [], _, _ => by simp
  | c :: r, 0, _ => by simp
  | c :: r, k + 1, h => by
    have h0 : c.length = n := h c (by simp)
    have ih := flat_take r k fun d hd => h d (by simp [hd])
    rw [List.take_succ_cons, List.flatten_cons, List.flatten_cons, ih, Nat.add_mul, Nat.one_mul, Nat.add_comm (k * n) n]
    conv => rhs; rw [← h0]
    rw [List.take_length_add_append, h0]
theorem flat_drop {n : Nat} : ∀ (css : List (List Value)) (k : Nat), (∀ c ∈ css, c.length = n) → (css.drop k).flatten = css.flatten.drop (k * n)
  | [], _, _ => by simp
  | c :: r, 0, _ => by simp
  | c :: r, k + 1, h => by
    have h0 : c.length = n := h c (by simp)
    have ih := flat_drop r k fun d hd => h d (by simp [hd])
    rw [List.drop_succ_cons, List.flatten_cons, ih, Nat.add_mul, Nat.one_mul, Nat.add_comm (k * n) n, ← List.drop_drop, ← h0, List.drop_left, h0]
section
variable {cx : Cx} {ob : Obs} {nx : Nat} {ρ : Nat → Option Value} {w w' : World}
theorem ent_lens {ok : Oks} {xs : List Ent} {css : List (List Value)} (h1 : css.length = xs.length) (h2 : ∀ i (h : i < xs.length), rEnt.is ok w (css.getD i []) xs[i]) : ∀ c ∈ css, c.length = 4 := css_lens h1 h2
theorem ent_ones {ok : Oks} {xs : List Ent} {css : List (List Value)} (h1 : css.length = xs.length) (h2 : ∀ i (h : i < xs.length), rEnt.is ok w (css.getD i []) xs[i]) : ∀ v ∈ css.flatten, v.oneCell' = true := css_ones h1 h2
theorem row_st (hs : StOk cx [] ob nx ρ ⟨#[], []⟩ w) {xs xs' : List Ent} (hg : getO ob 0 = some (.vec 127 rEnt xs)) {v u : Value} (hv : ρ 0 = some v) {css' : List (List Value)} (hl : css'.length = xs'.length)
    (hR : ∀ i (h : i < xs'.length), rEnt.is (okOf cx ρ ob) w (css'.getD i []) xs'[i]) (hrow : RowTo w w' v u xs'.length css'.flatten) :
    ∃ ρ', StOk cx [] (setO 0 (.vec 127 rEnt xs') (subOb 0 .any ob)) nx ρ' ⟨#[], []⟩ w' ∧ (C.vec 0).rep (okOf cx ρ' (setO 0 (.vec 127 rEnt xs') (subOb 0 .any ob))) ρ' w' u := by
  obtain ⟨h1, h2, h3, h4⟩ := hrow
  rw [← hv] at h2
  have h3' : ∀ b, blk (some u) = some b → blk (ρ 0) = some b ∨ (w.heap.size ≤ b ∧ b < w'.heap.size) := by rw [hv]; exact h3
  have hkp := okOf_swap (o' := .vec 127 rEnt xs') hs hg h2 (fun b hb => (h3' b hb).imp (fun h => h) (·.1))
  refine ⟨upd ρ 0 u, hs.swap hg h2 h3' ⟨u, upd_same, css', hl, fun i hi => Rd.kept _ hkp (hR i hi), h1⟩, upd_same, h4⟩
end
theorem getD_app {α : Type} (a b : List α) (i : Nat) (d : α) : (a ++ b).getD i d = if i < a.length then a.getD i d else b.getD (i - a.length) d := by
  simp only [List.getD_eq_getElem?_getD]
  split
  · rename_i h; rw [List.getElem?_append_left h]
  · rename_i h; rw [List.getElem?_append_right (by omega)]
theorem delete_x (xs : List Ent) (i j : Nat) (hij : i < j) (hj : j ≤ xs.length) : ACallX Tryz.prog 67 [.one (.vec 0), ii .i64 i, ii .i64 j] [(0, .vec 127 rEnt xs)] 1 (.one (.vec 0)) [(0, .vec 127 rEnt (xs.take i ++ xs.drop j))] 1 [] := by
  refine ⟨⟨_, Tryz.func67, rfl, rfl⟩, fun cx ρ w vs _ _ _ hs hvs => ?_⟩
  obtain ⟨v, r1, rfl, ⟨hv, _⟩, vi, r2, rfl, hvi, vj, r3, rfl, hvj, hr3⟩ := hvs
  rw [show r3 = [] from hr3, show vi = _ from hvi, show vj = _ from hvj]
  obtain ⟨v', hv', css, h1, h2, hown⟩ : ∃ v, ρ 0 = some v ∧ VecOk (okOf cx ρ [(0, .vec 127 rEnt xs)]) w v 127 rEnt xs := hs.obs (0, .vec 127 rEnt xs) (by simp)
  rw [hv] at hv'
  obtain rfl := Option.some.inj hv'
  have hfl := ent_lens h1 h2
  have hon := ent_ones h1 h2
  rcases id hown.2 with ⟨_, h0⟩ | ⟨b, cap, cur, rfl, _⟩
  · omega
  obtain ⟨cur, hb, hnc, hcm, hcz, htk, hcl⟩ := rowCells hown
  refine (del_w b cap xs.length i j cur w hb hcz hnc hcm hij hj (by rw [htk]; exact hon)).mono ?_
  rintro e w' ⟨rfl, cur', hgr, hb', hcz', hrow⟩
  have hnl : xs.length - (j - i) = (xs.take i ++ xs.drop j).length := by rw [List.length_append, List.length_take, List.length_drop]; omega
  have hf : (css.take i ++ css.drop j).flatten = cur.toList.take (i * 4) ++ (cur.toList.drop (j * 4)).take ((xs.length - j) * 4) := by
    rw [List.flatten_append, flat_take css i hfl, flat_drop css j hfl, ← htk, take4 _ _ _ (by omega), List.drop_take]
    congr 2
    omega
  have hown' : w'.ownsRow 0 127 4 (.slice (some ⟨b, 0, none⟩) (xs.length - (j - i)) cap) (xs.length - (j - i)) (css.take i ++ css.drop j).flatten := by
    rw [hf, ← hrow]
    have hcl' : cur'.toList.length = cap * 4 := by simpa using hcz'
    exact ⟨by rw [List.length_take, hcl']; omega, .inr ⟨b, cap, cur', rfl, Nat.zero_le _, hb', by omega, hcm, hcz', rfl⟩⟩
  rw [hnl] at hown' ⊢
  obtain ⟨ρ', h3, h4⟩ := row_st (xs' := xs.take i ++ xs.drop j) (css' := css.take i ++ css.drop j) (u := .slice (some ⟨b, 0, none⟩) (xs.take i ++ xs.drop j).length cap) hs rfl hv (by simp [h1]) (fun k hk => by
    rw [List.length_append, List.length_take, List.length_drop] at hk
    rw [getD_app, List.getElem_append]
    simp only [List.length_take, h1]
    split
    · rename_i hlt
      have := h2 k (by omega)
      rw [List.getElem_take]
      rw [List.getD_eq_getElem?_getD] at this ⊢
      rw [List.getElem?_take_of_lt (by omega)]
      exact this
    · rename_i hlt
      have := h2 (j + (k - min i xs.length)) (by omega)
      rw [List.getElem_drop]
      rw [List.getD_eq_getElem?_getD] at this ⊢
      rw [List.getElem?_drop]
      exact this) ⟨hown', hgr, fun _ h => .inl h, _, _, _, rfl⟩
  exact ⟨_, ρ', rfl, h3, h4, fun k hk => by cases hk⟩
end Q
end Ab
end Go.Proofs.YtnimhpgacmojiaaGreatDoor
namespace Go.Proofs.YtnimhpgacmojiaaGreatDoor
open Go.RowKit
namespace Ab
set_option maxRecDepth 100000
namespace Q
def recsT (l : List Itm) : List (List Fld) := (l.filter fun x => decide (x.1 = 3)).map (·.2.2)
def fldL (a : List Fld) : List ByteArray := a.flatMap fun f => lineB f.1 f.2
def textT : List (List Fld) → List ByteArray
  | [] => []
  | [a] => fldL a
  | a :: b :: r => fldL a ++ (⟨#[]⟩ :: textT (b :: r))
def GoodS (a : List Fld) : Prop := a ≠ [] ∧ a.length ≤ 40 ∧ ∀ f ∈ a, checkF f = 0
end Q
end Ab
end Go.Proofs.YtnimhpgacmojiaaGreatDoor
namespace Go.Proofs.YtnimhpgacmojiaaGreatDoor
open Go.RowKit
namespace Ab
set_option maxRecDepth 100000
namespace Q
def badAt : Int → List Fld → Int × Int
  | _, [] => (-9, 0)
  | i, f :: r => if checkF f ≠ 0 then (i, checkF f) else badAt (i + 1) r
def chkR (l : List Fld) : Int × Int := if l = [] then (-9, 2) else if 40 < l.length then (-9, 11) else badAt 0 l
def chkA (l : List Fld) : C := if (chkR l).2 = 0 then .lit .nilIface else if (chkR l).1 = -9 then errN (chkR l).2 else errF (chkR l).1 (chkR l).2
end Q
end Ab
end Go.Proofs.YtnimhpgacmojiaaGreatDoor
namespace Go.Proofs.YtnimhpgacmojiaaGreatDoor
open Go.RowKit
namespace Ab
set_option maxRecDepth 100000
namespace Q
theorem clone_c {k : Nat} (l : List Fld) (hl : l.length ≤ 1000000) : ACall Tryz.prog 66 [.one (.slk k rFld l)] (.one (.sl rFld l)) := by
  refine acall_of (rs := [2]) Tryz.func66 rfl rfl rfl teOk rfl ?_
  refine acode_seq ?_
  refine acode_region ?_
  refine acode_seq ?_
  refine acode_seq ?_
  refine acode_isnil (q := k) [_] _ (R := rFld) (xs := l) rfl rfl rfl rfl (e := 91) rfl rfl ?_
  refine ⟨rfl, fun b hb => ?_⟩
  refine acode_cond rfl (fun h4 => ?_) (fun h4 => ?_)
  ·have hl0 := hb h4
   subst hl0
   refine acode_seq ?_
   refine acode_region ?_
   refine acode_nilvec 2 91 rFld rfl ?_
   refine acode_ret ?_
   rfl
  ·refine acode_skip ?_
   refine acode_seq ?_
   refine acode_region ?_
   refine And.intro (by first | exact app_le (show l.length ≤ 1000000000 by omega) (by decide) | exact app_le (show 0 + l.length ≤ 1000000000 by omega) (by decide)) ?_
   refine acode_ret ?_
   rfl
def al6 : List (List Fld) := [[(⟨#[65]⟩, ⟨#[49]⟩)], [(⟨#[66]⟩, ⟨#[50]⟩)]]
end Q
end Ab
end Go.Proofs.YtnimhpgacmojiaaGreatDoor
namespace Go.Proofs.YtnimhpgacmojiaaGreatDoor
open Go.RowKit
namespace Ab
set_option maxRecDepth 100000
namespace Q
def itEs (es : List Ent) : List (List A) := (es.filter live).map fun e => [A.agg (toL rEnt e)]
def cntL (es : List Ent) : Nat := (es.filter live).length
theorem cntL_snoc {es : List Ent} {i : Nat} (h : i < es.length) : cntL (es.take (i + 1)) = cntL (es.take i) + if live (es.getD i (((0 : Int), ByteArray.empty, ([] : List Fld)), (0 : Int))) then 1 else 0 := by
  unfold cntL
  rw [← take_snoc (((0 : Int), ByteArray.empty, ([] : List Fld)), (0 : Int)) h, List.filter_append, List.length_append]
  generalize es.getD i (((0 : Int), ByteArray.empty, ([] : List Fld)), (0 : Int)) = x
  cases hk : live x <;> simp [hk]
theorem itEs_at {es : List Ent} {i : Nat} (h : i < es.length) (hl : live (es.getD i (((0 : Int), ByteArray.empty, ([] : List Fld)), (0 : Int))) = true) : ∃ hk : cntL (es.take i) < (itEs es).length, (itEs es)[cntL (es.take i)] = [A.agg (toL rEnt (es.getD i (((0 : Int), ByteArray.empty, ([] : List Fld)), (0 : Int))))] := by
  obtain ⟨h1, h2⟩ := filter_at live (((0 : Int), ByteArray.empty, ([] : List Fld)), (0 : Int)) es i h hl
  have h1' : cntL (es.take i) < (es.filter live).length := h1
  refine ⟨by unfold itEs; rw [List.length_map]; exact h1', ?_⟩
  have h3 : (es.filter live)[cntL (es.take i)]'h1' = es.getD i (((0 : Int), ByteArray.empty, ([] : List Fld)), (0 : Int)) := (getD_get h1' (((0 : Int), ByteArray.empty, ([] : List Fld)), (0 : Int))).trans h2
  exact (List.getElem_map (fun e => [A.agg (toL rEnt e)])).trans (congrArg (fun e => [A.agg (toL rEnt e)]) h3)
theorem all_iter {k : Nat} (es : List Ent) (n m : Int) : AIter Tryz.prog 103 [.one (.ref (.adk k (rLst k) (es, n, m)))] (itEs es) := by
  refine aiter_of Tryz.func103 rfl rfl rfl teOk rfl ?_
  intro l ι Pr J U n0 hU hab hy
  refine acodeY_seq ?_
  refine acodeY_seq ?_
  refine acodeY_seg hab hU rfl ?_
  refine acode_region ?_
  refine ⟨_, _, _, le_refl, ?_⟩
  refine acodeY_cond rfl (fun h6 => ?_) (fun h6 => ?_)
  ·simp at h6
  refine acodeY_skip ?_
  refine acodeY_seq ?_
  refine acodeY_seg hab hU rfl ?_
  refine acode_region ?_
  intro hln
  have hln : es.length ≤ 9223372036854775807 := hln
  refine ⟨_, _, _, le_refl, ?_⟩
  refine acodeY_block ?_
  refine acodeY_loop (κ := Nat) (fun i => i ≤ es.length) (fun i => cntL (es.take i)) (fun i => [(0, .one (.lit (.func (.yield l) #[] #[]))), (10, .one (.slk k rEnt es)), (11, ii .i64 es.length), (12, ii .i64 i)]) (fun _ => []) 0 (fun i => es.length - i) 0 (Nat.zero_le _) hab hU (le_of ⟨rfl, rfl, rfl, rfl⟩ trivial rfl) rfl ?_
  intro i hi
  have hi : i ≤ es.length := hi
  refine acodeY_lowQ hab hU ?_
  refine acodeY_seq ?_
  refine acodeY_seg hab hU rfl ?_
  refine acode_region ?_
  refine ⟨_, _, _, le_refl, ?_⟩
  refine acodeY_seq ?_
  refine acodeY_cond rfl (fun h13 => ?_) (fun h13 => ?_)
  ·simp only [decide_eq_true_eq] at h13
   have hlt : i < es.length := by omega
   have hsn := cntL_snoc hlt
   refine acodeY_skip ?_
   refine acodeY_seq ?_
   refine acodeY_block ?_
   refine acodeY_seq ?_
   refine acodeY_seg hab hU rfl ?_
   refine acode_region ?_
   refine And.intro (by omega) ?_
   refine ⟨_, _, _, le_refl, ?_⟩
   refine acodeY_seq ?_
   refine acodeY_yieldG (pre := [_, _, _, _, _, _]) (post := [_, _]) _ (live (es.getD i (((0 : Int), ByteArray.empty, ([] : List Fld)), (0 : Int)))) rfl rfl rfl rfl rfl hab hU hy ?_
   refine And.intro (fun _ => trivial) ?_
   refine And.intro (fun _ => trivial) ?_
   refine ⟨_, _, _, le_refl, ⟨_, rfl, rfl⟩, fun hq => ?_, fun hq => ?_⟩
   ·obtain ⟨hk, hx⟩ := itEs_at hlt hq
    refine ⟨hk, ⟨⟨hq, trivial⟩, ⟨hq, trivial⟩, trivial⟩, rfl, hx.symm, by rw [hx]; rfl, fun st => ?_⟩
    refine And.intro (fun _ => ⟨⟨rfl, trivial⟩, trivial⟩) ?_
    refine And.intro (fun h => h) ?_
    refine ⟨_, _, _, le_refl, ?_⟩
    refine acodeY_cond rfl (fun h24 => ?_) (fun h24 => ?_)
    ·have h24 : (live (es.getD i (((0 : Int), ByteArray.empty, ([] : List Fld)), (0 : Int))) && !!st) = true := h24
     rw [hq, Bool.true_and, Bool.not_not] at h24
     subst h24
     refine acodeY_ret ?_
     exact ⟨_, .inl rfl, .inl rfl, fun e => by cases e⟩
    ·have h24 : (live (es.getD i (((0 : Int), ByteArray.empty, ([] : List Fld)), (0 : Int))) && !!st) = false := h24
     rw [hq, Bool.true_and, Bool.not_not] at h24
     subst h24
     refine acodeY_skip ?_
     refine acodeY_seg hab hU rfl ?_
     refine acode_region ?_
     refine And.intro (by omega) ?_
     refine ⟨_, _, _, le_of (tm' := [(0, .one (.lit (.func (.yield l) #[] #[]))), (10, .one (.slk k rEnt es)), (11, ii .i64 es.length), (12, ii .i64 (i + 1 : Nat))]) (ob' := []) (nx' := 1) ⟨rfl, rfl, rfl, ii_eq (by omega)⟩ trivial rfl, 0, .inr rfl, ⟨i + 1, hlt, by omega, rfl, ?_, rfl, rfl, rfl⟩⟩
     rw [hsn, if_pos hq]
   ·refine And.intro (fun h => absurd (h.symm.trans hq) (by decide)) ?_
    refine And.intro (fun h => h) ?_
    refine ⟨_, _, _, le_refl, ?_⟩
    refine acodeY_cond rfl (fun h24 => ?_) (fun h24 => ?_)
    ·have h24 : (live (es.getD i (((0 : Int), ByteArray.empty, ([] : List Fld)), (0 : Int))) && _) = true := h24
     rw [hq] at h24
     cases h24
    ·refine acodeY_skip ?_
     refine acodeY_seg hab hU rfl ?_
     refine acode_region ?_
     refine And.intro (by omega) ?_
     refine ⟨_, _, _, le_of (tm' := [(0, .one (.lit (.func (.yield l) #[] #[]))), (10, .one (.slk k rEnt es)), (11, ii .i64 es.length), (12, ii .i64 (i + 1 : Nat))]) (ob' := []) (nx' := 1) ⟨rfl, rfl, rfl, ii_eq (by omega)⟩ trivial rfl, 0, .inr rfl, ⟨i + 1, hlt, by omega, rfl, ?_, rfl, rfl, rfl⟩⟩
     rw [hsn, if_neg (by rw [hq]; decide)]
     rfl
  ·simp only [decide_eq_false_iff_not] at h13
   refine acodeY_exit ?_
   refine ⟨_, .inl rfl, .inr rfl, fun _ => ?_⟩
   rw [List.take_of_length_le (by omega)]
   simp only [itEs, List.length_map, cntL]
theorem allN_iter : AIter Tryz.prog 103 [.one (.ref (.lit (.pointer none)))] [] := by
  refine aiter_of Tryz.func103 rfl rfl rfl teOk rfl ?_
  intro l ι Pr J U n0 hU hab hy
  refine acodeY_seq ?_
  refine acodeY_seq ?_
  refine acodeY_seg hab hU rfl ?_
  refine acode_region ?_
  refine ⟨_, _, _, le_refl, ?_⟩
  refine acodeY_cond rfl (fun h6 => ?_) (fun h6 => ?_)
  ·refine acodeY_ret ?_
   exact ⟨.inl rfl, fun _ => rfl⟩
  ·simp at h6
theorem all_c {k : Nat} (L : Lst) : ACall Tryz.prog 68 [.one (.adk k (rLst k) L)] (.one (.clo 103 (.ref (.adk k (rLst k) L)))) := by
  refine acall_of (rs := [2]) Tryz.func68 rfl rfl rfl teOk rfl ?_
  refine acode_seq ?_
  refine acode_region ?_
  refine acode_seq ?_
  refine acode_region ?_
  refine acode_frz [0] ?_
  refine acode_ret ?_
  rfl
theorem allN_c : ACall Tryz.prog 68 [.one (.lit (.pointer none))] (.one (.clo 103 (.ref (.lit (.pointer none))))) := by
  refine acall_of (rs := [2]) Tryz.func68 rfl rfl rfl teOk rfl ?_
  refine acode_seq ?_
  refine acode_region ?_
  refine acode_seq ?_
  refine acode_region ?_
  refine acode_frz [0] ?_
  refine acode_ret ?_
  rfl
end Q
end Ab
end Go.Proofs.YtnimhpgacmojiaaGreatDoor
namespace Go.Proofs.YtnimhpgacmojiaaGreatDoor
open Go.RowKit
namespace Ab
set_option maxRecDepth 100000
namespace Q
theorem index_E (f : FuncId) {k : Nat} {β : Type} (S : Rd β) (y : β) (l : List Ent) (p : Ent → Bool) (hp : ∀ x ∈ l, ACall Tryz.prog f [.agg (toL rEnt x), .one (.addr S y)] (ib (p x))) : ACall Tryz.prog 101 [.one (.slk k rEnt l), .one (.clo f (.addr S y))] (ii .i64 (ixOf p l)) := by
  refine acall_of (rs := [4]) Tryz.func101 rfl rfl rfl teOk rfl ?_
  refine acode_seq ?_
  refine acode_region ?_
  refine acode_seq ?_
  refine acode_seq ?_
  refine acode_region ?_
  intro l1_1
  try simp only [Int.toNat_natCast, dflt_sl, dflt_st, dflt_str, dflt_int, dflt_bool] at l1_1
  refine acode_block ?_
  refine acode_loopP (fun (i : Nat) => i ≤ l.length ∧ (l.take i).any p = false) (fun (i : Nat) => [(0, .one (.slk k rEnt l)), (1, .one (.clo f (.addr S y))), (7, ii .i64 l.length), (8, ii .i64 i)]) (fun (i : Nat) => []) 0 (fun (i : Nat) => l.length - i) 0 (⟨Nat.zero_le _, rfl⟩) (le_of ⟨rfl, rfl, rfl, rfl⟩ trivial rfl) ?_
  intro i hI0
  obtain ⟨hi, hn⟩ := hI0
  refine acode_seq ?_
  refine acode_region ?_
  refine acode_seq ?_
  refine acode_cond rfl (fun h9 => ?_) (fun h9 => ?_)
  ·try simp only [decide_eq_true_eq] at h9
   try simp only [Int.toNat_natCast, dflt_sl, dflt_st, dflt_str, dflt_int, dflt_bool] at h9
   refine acode_skip ?_
   refine acode_seq ?_
   refine acode_block ?_
   refine acode_seq ?_
   refine acode_region ?_
   refine acode_seq ?_
   refine acode_region ?_
   refine And.intro (by first | omega | assumption | decide | (simp only [Int.toNat_natCast, dflt_sl, dflt_st, dflt_str, dflt_int, dflt_bool]; omega) | (simp <;> omega)) ?_
   refine Or.inl ?_
   refine And.intro (rfl) ?_
   refine Exists.intro _ (And.intro (hp _ (getD_mem (show i < l.length by omega) _)) ?_)
   refine acode_cond rfl (fun h16 => ?_) (fun h16 => ?_)
   ·try simp only [decide_eq_true_eq, decide_eq_false_iff_not, Bool.and_eq_true, Bool.not_eq_true', Bool.not_eq_false', Bool.or_eq_false_iff, Bool.or_eq_true, Bool.and_eq_false_iff, Int.not_lt, Int.not_le] at h16
    try simp only [Int.toNat_natCast, dflt_sl, dflt_st, dflt_str, dflt_int] at h16
    refine acode_seq ?_
    refine acode_region ?_
    refine acode_ret ?_
    exact ii_eq (ixOf_at (((0 : Int), ByteArray.empty, ([] : List Fld)), (0 : Int)) (by omega) hn h16).symm
   ·try simp only [decide_eq_true_eq, decide_eq_false_iff_not, Bool.and_eq_true, Bool.not_eq_true', Bool.not_eq_false', Bool.or_eq_false_iff, Bool.or_eq_true, Bool.and_eq_false_iff, Int.not_lt, Int.not_le] at h16
    try simp only [Int.toNat_natCast, dflt_sl, dflt_st, dflt_str, dflt_int] at h16
    refine acode_skip ?_
    refine acode_region ?_
    refine And.intro (by first | omega | assumption | decide | (simp only [Int.toNat_natCast, dflt_sl, dflt_st, dflt_str, dflt_int, dflt_bool]; omega) | (simp <;> omega)) ?_
    exact ⟨i + 1, ⟨by omega, by rw [take_any l p (((0 : Int), ByteArray.empty, ([] : List Fld)), (0 : Int)) i (by omega), hn]; exact h16⟩, by first | omega | (simp <;> omega), le_of ⟨rfl, rfl, rfl, rfl⟩ trivial rfl⟩
  ·try simp only [decide_eq_false_iff_not, Int.not_lt] at h9
   try simp only [Int.toNat_natCast, dflt_sl, dflt_st, dflt_str, dflt_int, dflt_bool] at h9
   refine acode_exit ?_
   refine acode_seq ?_
   refine acode_region ?_
   refine acode_ret ?_
   have e : i = l.length := by omega
   subst e
   rw [List.take_length] at hn
   exact ii_eq (ixOf_none hn).symm
theorem at1_c (id : Int) (e : Ent) : ACall Tryz.prog 102 [.agg (toL rEnt e), .one (.addr (.int .i64) id)] (ib (hasId id e)) := by
  refine acall_of (rs := [3]) Tryz.func102 rfl rfl rfl teOk rfl ?_
  refine acode_seq ?_
  refine acode_region ?_
  refine acode_seq ?_
  refine acode_region ?_
  refine acode_ret ?_
  rfl
theorem at_c {k : Nat} (es : List Ent) (n m id : Int) : ACall Tryz.prog 65 [.one (.adk k (rLst k) (es, n, m)), ii .i64 id] (ii .i64 (atE es id)) := by
  refine acall_of (rs := [4]) Tryz.func65 rfl rfl rfl teOk rfl ?_
  refine acode_seq ?_
  refine acode_region ?_
  refine acode_seq ?_
  refine acode_seq ?_
  refine acode_region ?_
  refine And.intro (fun h => trivial) ?_
  refine And.intro (fun h => ⟨⟨h, trivial⟩, trivial⟩) ?_
  refine And.intro (by first | (intro h; rw [h]; rfl) | (intro h; cases h)) ?_
  refine acode_cond rfl (fun h10 => ?_) (fun h10 => ?_)
  ·try simp only [decide_eq_true_eq, Bool.or_eq_true] at h10
   try simp only [Int.toNat_natCast, dflt_sl, dflt_st, dflt_str, dflt_int, dflt_bool] at h10
   have h10 : id < 1 := h10.elim (fun h => by cases h) (fun h => h)
   refine acode_seq ?_
   refine acode_region ?_
   refine acode_ret ?_
   exact ii_eq (by unfold atE; rw [if_pos h10])
  ·try simp only [decide_eq_false_iff_not, Bool.or_eq_false_iff, Int.not_lt] at h10
   try simp only [Int.toNat_natCast, dflt_sl, dflt_st, dflt_str, dflt_int, dflt_bool] at h10
   have h10 : ¬ id < 1 := (by simp at h10; omega)
   refine acode_skip ?_
   refine acode_seq ?_
   refine acode_region ?_
   refine Or.inl ?_
   refine And.intro (rfl) ?_
   refine Exists.intro _ (And.intro (index_E _ (.int .i64) id es (hasId id) (fun x _ => at1_c id x)) ?_)
   refine acode_ret ?_
   exact ii_eq (by unfold atE; rw [if_neg h10])
end Q
end Ab
end Go.Proofs.YtnimhpgacmojiaaGreatDoor
namespace Go.Proofs.YtnimhpgacmojiaaGreatDoor
open Go.RowKit
namespace Ab
set_option maxRecDepth 100000
namespace Q
theorem lDel_ok (es : List Ent) (n m id : Int) (i : Nat) (hi : i < es.length) (h : atE es id = i) (hm : 0 ≤ m ∧ m ≤ 1000000) (hl : es.length ≤ 1000000) : ACallO Tryz.prog 28 [.one (.own 0 0), ii .i64 id] (lsO (es, n, m)) 2 (.one (.lit .nilIface)) (lsO (delE es i, n, m - 1)) 2 := by
  refine acallo_of (rs := [4]) Tryz.func28 rfl rfl rfl teOk (by decide) rfl ?_
  refine acode_seq ?_
  refine acode_region ?_
  refine acode_seq ?_
  refine acode_region ?_
  refine Or.inr (Or.inr (Or.inl ?_))
  refine And.intro rfl ?_
  refine Exists.intro _ (And.intro ((by have := at_c (k := 1) es n m id; rw [h] at this; exact this)) ?_)
  refine acode_seq ?_
  refine acode_seq ?_
  refine acode_region ?_
  refine acode_cond rfl (fun h10 => ?_) (fun h10 => ?_)
  ·try simp only [decide_eq_true_eq] at h10
   try simp only [Int.toNat_natCast, dflt_sl, dflt_st, dflt_str, dflt_int, dflt_bool] at h10
   omega
  ·try simp only [decide_eq_false_iff_not, Int.not_lt] at h10
   try simp only [Int.toNat_natCast, dflt_sl, dflt_st, dflt_str, dflt_int, dflt_bool] at h10
   refine acode_skip ?_
   refine acode_seq ?_
   refine acode_region ?_
   refine And.intro (by first | omega | assumption | decide | (simp only [Int.toNat_natCast, dflt_sl, dflt_st, dflt_str, dflt_int, dflt_bool]; omega) | (simp <;> omega)) ?_
   refine Or.inr (Or.inr (Or.inr (Exists.intro [1] (Exists.intro [] (Exists.intro _ (Exists.intro _ (Exists.intro _ (Exists.intro _ (Exists.intro _ (And.intro (delete_x es i (i + 1) (Nat.lt_succ_self _) hi) (And.intro rfl (And.intro (And.intro (And.intro rfl rfl) True.intro) (And.intro rfl ?_)))))))))))))
   refine acode_seq ?_
   refine acode_region ?_
   refine And.intro (by first | omega | assumption | decide | (simp only []; omega) | (simp <;> omega)) ?_
   refine acode_seq ?_
   refine acode_region ?_
   refine acode_ret ?_
   exact ⟨rfl, ⟨rfl, rfl⟩, rfl⟩
end Q
end Ab
end Go.Proofs.YtnimhpgacmojiaaGreatDoor
namespace Go.Proofs.YtnimhpgacmojiaaGreatDoor
open Go.RowKit
namespace Ab
set_option maxRecDepth 100000
namespace Q
end Q
end Ab
end Go.Proofs.YtnimhpgacmojiaaGreatDoor
namespace Go.Proofs.YtnimhpgacmojiaaGreatDoor
open Go.RowKit
namespace Ab
set_option maxRecDepth 100000
namespace Q
def itmOf (f : List Fld) : Itm := (3, bytes (foldL f), f)
end Q
end Ab
end Go.Proofs.YtnimhpgacmojiaaGreatDoor
namespace Go.Proofs.YtnimhpgacmojiaaGreatDoor
open Go.RowKit
namespace Ab
set_option maxRecDepth 100000
namespace Q
end Q
end Ab
end Go.Proofs.YtnimhpgacmojiaaGreatDoor
namespace Go.Proofs.YtnimhpgacmojiaaGreatDoor
open Go.RowKit
namespace Ab
set_option maxRecDepth 100000
abbrev Edt := Int × Int × List Fld
abbrev rEdt : Rd Edt := .st (.int .i64) (.st (.int .i64) (.sl rFld))
namespace Q
def heavyB (l : List Edt) : Bool := decide (51 < l.length) || l.any fun e => muchB e.2.2
def spF : Fld := (⟨#[115, 112, 111, 105, 108, 116]⟩, ⟨#[115, 112, 111, 105, 108, 116]⟩)
end Q
end Ab
end Go.Proofs.YtnimhpgacmojiaaGreatDoor
namespace Go.Proofs.YtnimhpgacmojiaaGreatDoor
open Go.RowKit
namespace Ab
set_option maxRecDepth 100000
namespace Q
theorem itEs_len (es : List Ent) : (itEs es).length = (es.filter live).length := List.length_map _
theorem itEs_get (es : List Ent) {i : Nat} (h : i < (itEs es).length) : ∃ e ∈ es, (es.filter live).getD i (((0 : Int), ByteArray.empty, ([] : List Fld)), (0 : Int)) = e ∧ i < (es.filter live).length ∧ (itEs es)[i] = [A.agg (toL rEnt e)] := by
  have h1 : i < (es.filter live).length := by rw [← itEs_len]; exact h
  refine ⟨_, (List.mem_filter.1 (getD_mem h1 (((0 : Int), ByteArray.empty, ([] : List Fld)), (0 : Int)))).1, rfl, h1, ?_⟩
  exact (List.getElem_map (fun e => [A.agg (toL rEnt e)])).trans (congrArg (fun e => [A.agg (toL rEnt e)]) (getD_get h1 (((0 : Int), ByteArray.empty, ([] : List Fld)), (0 : Int))))
def stT (es : List Ent) (i : Nat) : List Stz := ((es.filter live).take i).map stzOf
theorem stT_snoc {es : List Ent} {i : Nat} (h : i < (es.filter live).length) : stT es (i + 1) = stT es i ++ [stzOf ((es.filter live).getD i (((0 : Int), ByteArray.empty, ([] : List Fld)), (0 : Int)))] := by
  unfold stT
  rw [← take_snoc (((0 : Int), ByteArray.empty, ([] : List Fld)), (0 : Int)) h, List.map_append]
  rfl
theorem stT_len {es : List Ent} {i : Nat} : (stT es i).length ≤ i := by
  unfold stT
  rw [List.length_map, List.length_take]
  omega
theorem live_len (es : List Ent) : (es.filter live).length ≤ es.length := List.length_filter_le _ _
theorem stanzasN_c : ACall Tryz.prog 42 [.one (.lit (.pointer none))] (.one (.sl rStz [])) := by
  refine acall_of (rs := [2]) Tryz.func42 rfl rfl rfl teOk rfl ?_
  refine acode_seq ?_
  refine acode_region ?_
  refine acode_seq ?_
  refine acode_region ?_
  refine acode_seq ?_
  refine acode_seq ?_
  refine acode_region ?_
  refine Or.inl ?_
  refine And.intro (rfl) ?_
  refine Exists.intro _ (And.intro (allN_c) ?_)
  refine acode_block ?_
  refine acode_nilcell 0 0 27 rStz rfl rfl rfl ?_
  refine acode_range (caps := [.one (.ref (.lit (.pointer none)))]) (xs := []) [(3, .one (.own 0 0)), (6, .one (.clo 103 (.ref (.lit (.pointer none)))))] 2 (fun st j (i : Nat) => st = false ∧ i = j) (fun _ => [(0, .box 36 [.vec 1]), (1, .vec 27 rStz [])]) (fun _ => .ret) 0 rfl rfl allN_iter (le_of ⟨rfl, rfl⟩ ⟨rfl, rfl⟩ rfl) ⟨rfl, rfl⟩ (fun j hj => by cases hj) rfl rfl rfl (fun _ _ _ => rfl) rfl ?_ ?_ ?_
  ·intro j i hk hp
   cases hk
  ·intro i hp
   obtain ⟨_, rfl⟩ := hp
   refine acode_seq ?_
   refine acode_region ?_
   refine acode_ret ?_
   exact rfl
  ·intro j i hp
   exact absurd hp.1 (by decide)
end Q
end Ab
end Go.Proofs.YtnimhpgacmojiaaGreatDoor
namespace Go.Proofs.YtnimhpgacmojiaaGreatDoor
open Go.RowKit
namespace Ab
set_option maxRecDepth 100000
namespace Q
def SmallF (l : List Fld) : Prop := ∀ f ∈ l, f.1.size ≤ 1000 ∧ f.2.size ≤ 1000
structure GP (p : PSt) : Prop where
  flds : SmallF p.flds
  room : p.lns ≠ [] → p.full = false → p.flds.length < 40
  len : p.flds.length ≤ 40
  its : ∀ x ∈ p.its, SmallF x.2.2 ∧ x.2.2.length ≤ 40
theorem smallF_nil : SmallF [] := fun f hf => by cases hf
theorem flush_gp {p q : PSt} (h : GP p) (hf : flushS p = .inr q) : GP q := by
  unfold flushS at hf
  split at hf
  · cases hf; exact h
  · rename_i h0
    split at hf
    · cases hf
    · split at hf
      · cases hf
      · rename_i h1 h2
        cases hf
        have hr := h.room h0 (by simpa using h2)
        refine ⟨fun f hf => ?_, fun h => absurd rfl h, by simp only [List.length_append, List.length_cons, List.length_nil]; omega, h.its⟩
        rcases List.mem_append.1 hf with hf | hf
        · exact h.flds f hf
        · rw [List.mem_singleton.1 hf]
          rcases unf_cases (p.lns.map ls) with ⟨n, hn, e⟩ | ⟨k, v, e, hk, hv⟩
          · rw [e]; exact ⟨by show (bytes []).size ≤ 1000; decide, by show (bytes []).size ≤ 1000; decide⟩
          · rw [e]
            simp only [bytes_size]
            refine ⟨?_, hv⟩
            unfold keyOk at hk
            simp only [Bool.and_eq_true, decide_eq_true_eq] at hk
            omega
theorem close_gp {q : PSt} (h : GP q) : GP (closeS q) := by
  unfold closeS
  split
  · exact ⟨smallF_nil, fun _ _ => (by show 0 < 40; decide), (by show 0 ≤ 40; decide), h.its⟩
  · refine ⟨smallF_nil, fun _ _ => (by show 0 < 40; decide), (by show 0 ≤ 40; decide), fun x hx => ?_⟩
    rcases List.mem_append.1 hx with hx | hx
    · exact h.its x hx
    · rw [List.mem_singleton.1 hx]
      exact ⟨h.flds, h.len⟩
theorem end_gp {p q : PSt} (h : GP p) (hf : endS p = .inr q) : GP q := by
  unfold endS at hf
  split at hf
  · cases hf
  · rename_i r e
    cases hf
    exact close_gp (flush_gp h e)
theorem begin_gp {p : PSt} (l : Lne) (h : GP p) : GP (beginS p l) := by
  refine ⟨h.flds, fun _ hf => ?_, h.len, h.its⟩
  have := h.len
  unfold beginS at hf
  simp only [Bool.or_eq_false_iff, decide_eq_false_iff_not] at hf
  show p.flds.length < 40
  omega
theorem ahead_gp {p q : PSt} {l : Lne} {k : Int} (h : GP p) (hf : aheadS p l k = .inr q) : GP q := by
  unfold aheadS at hf
  split at hf
  · split at hf
    · cases hf
    · rename_i h0
      have h2 : GP { p with lns := p.lns ++ [l.2.2.1] } := ⟨h.flds, fun _ => h.room h0, h.len, h.its⟩
      split at hf
      · cases hf; exact h2
      · exact flush_gp h2 hf
  · split at hf
    · exact end_gp h hf
    · exact flush_gp h hf
theorem line_gp {p q : PSt} {l : Lne} {k : Int} (h : GP p) (hf : lineS p l k = .inr q) : GP q := by
  unfold lineS at hf
  split at hf
  · cases hf
  · split at hf
    · cases hf
      refine ⟨h.flds, h.room, h.len, fun x hx => ?_⟩
      rcases List.mem_append.1 hx with hx | hx
      · exact h.its x hx
      · rw [List.mem_singleton.1 hx]
        exact ⟨smallF_nil, by show 0 ≤ 40; decide⟩
    · split at hf
      · cases hf
        have := begin_gp l h
        exact ⟨this.flds, this.room, this.len, this.its⟩
      · cases hf
        exact ⟨h.flds, h.room, h.len, h.its⟩
theorem take_gp {p q : PSt} {l : Lne} (h : GP p) (hf : takeS p l = .inr q) : GP q := by
  unfold takeS at hf
  split at hf
  · cases hf
  · rename_i r e
    exact line_gp (ahead_gp h e) hf
theorem run_gp : ∀ (L : List Lne) {p q : PSt}, GP p → runS p L = .inr q → GP q
  | [], p, q, h, hf => by
    cases hf; exact h
  | l :: r, p, q, h, hf => by
    unfold runS at hf
    split at hf
    · cases hf
    · rename_i t e
      exact run_gp r (take_gp h e) hf
theorem items_small {s : ByteArray} {l : List Itm} (hp : parseS s = .inr l) : ∀ x ∈ l, SmallF x.2.2 ∧ x.2.2.length ≤ 40 := by
  unfold parseS at hp
  split at hp
  · cases hp
  · rename_i p e
    split at hp
    · cases hp
    · rename_i q e2
      cases hp
      exact (end_gp (run_gp _ ⟨smallF_nil, fun h => absurd rfl h, by decide, fun x hx => by cases hx⟩ e) e2).its
theorem fldsOk_of {l : List Fld} (h : SmallF l) (hl : l.length ≤ 40) : FldsOk l := ⟨by omega, fun f hf => by have := h f hf; omega⟩
end Q
end Ab
end Go.Proofs.YtnimhpgacmojiaaGreatDoor
namespace Go.Proofs.YtnimhpgacmojiaaGreatDoor
open Go.RowKit
namespace Ab
set_option maxRecDepth 100000
namespace Q
abbrev RLs := List Ent × Int
abbrev rRL : Rd RLs := .st (.sl rEnt) (.int .i64)
theorem stzL_le (es : List Ent) : (stzL es).length ≤ es.length := by
  unfold stzL
  rw [List.length_map]
  exact live_len es
end Q
end Ab
end Go.Proofs.YtnimhpgacmojiaaGreatDoor
namespace Go.Proofs.YtnimhpgacmojiaaGreatDoor
open Go.RowKit
namespace Ab
set_option maxRecDepth 100000
namespace Q
def doL (L : Lst) (e : Edt) : Lst :=
  if e.1 = 1 then
    if atE L.1 e.2.1 < 0 then L else if (chkR e.2.2).2 ≠ 0 then L else (replE L.1 (atE L.1 e.2.1).toNat (itmOf e.2.2), L.2)
  else if e.1 = 2 then
    if atE L.1 e.2.1 < 0 then L else (delE L.1 (atE L.1 e.2.1).toNat, L.2.1, L.2.2 - 1)
  else if atE L.1 e.2.1 < 0 ∧ e.2.1 ≠ 0 then L else if (chkR e.2.2).2 ≠ 0 then L else if 400 ≤ L.2.2 then L else
    (insE L.1 (atE L.1 e.2.1 + 1).toNat (itmOf e.2.2, L.2.1), L.2.1 + 1, L.2.2 + 1)
def refRep (M : RLs) (id : Int) (f : List Fld) : RLs × Int × Int :=
  if atE M.1 id < 0 then (M, -9, 7) else if (chkR f).2 ≠ 0 then (M, (chkR f).1, (chkR f).2) else ((replE M.1 (atE M.1 id).toNat (itmOf f), M.2), -9, 0)
def refDel (M : RLs) (id : Int) : RLs × Int :=
  if atE M.1 id < 0 then (M, 7) else ((delE M.1 (atE M.1 id).toNat, M.2), 0)
def refIns (M : RLs) (id : Int) (f : List Fld) : RLs × Int × Int × Int :=
  if atE M.1 id < 0 ∧ id ≠ 0 then (M, 0, -9, 7) else if (chkR f).2 ≠ 0 then (M, 0, (chkR f).1, (chkR f).2) else if 400 ≤ ((M.1.filter live).length : Int) then (M, 0, -9, 11) else
    ((insE M.1 (atE M.1 id + 1).toNat (itmOf f, M.2), M.2 + 1), M.2, -9, 0)
def posI (n : Int) : Bool := decide (0 < n)
def nmsL (es : List Ent) : List Int := (es.map (·.2)).filter posI
structure LOk (c : Nat) (L : Lst) : Prop where
  flds : ∀ e ∈ L.1, FldsOk e.1.2.2
  ids : ∀ e ∈ L.1, 0 ≤ e.2 ∧ e.2 < L.2.1
  nd : (nmsL L.1).Nodup
  many : L.2.2 = ((nmsL L.1).length : Int)
  next : 1 ≤ L.2.1 ∧ L.2.1 ≤ c
  len : L.1.length ≤ c
theorem del_split {es : List Ent} {i : Nat} (h : i < es.length) : es = es.take i ++ (es.getD i (((0 : Int), ByteArray.empty, ([] : List Fld)), (0 : Int))) :: es.drop (i + 1) := by
  conv => lhs; rw [← List.take_append_drop i es, List.drop_eq_getElem_cons h]
  rw [List.getD_eq_getElem?_getD, List.getElem?_eq_getElem h]; rfl
theorem mem_del {es : List Ent} {i : Nat} {e : Ent} (h : e ∈ delE es i) : e ∈ es := by
  rcases List.mem_append.1 h with h | h
  · exact List.mem_of_mem_take h
  · exact List.mem_of_mem_drop h
theorem ids_cons (e : Ent) (b : List Ent) : nmsL (e :: b) = if 0 < e.2 then e.2 :: nmsL b else nmsL b := by
  unfold nmsL
  rw [List.map_cons, List.filter_cons]
  unfold posI
  by_cases h : 0 < e.2
  · rw [if_pos h, if_pos (decide_eq_true h)]
  · rw [if_neg h, if_neg (by simpa using h)]
theorem ids_num : ∀ (l : List Itm) (n : Int), 1 ≤ n → nmsL (numI n l) = (List.range (cntR l)).map (fun k : Nat => n + (k : Int)) ∧ ∀ e ∈ numI n l, 0 ≤ e.2 ∧ e.2 < n + (cntR l : Int)
  | [], n, _ => ⟨rfl, fun e he => by cases he⟩
  | x :: r, n, hn => by
    unfold numI
    split
    · rename_i h
      obtain ⟨h1, h2⟩ := ids_num r (n + 1) (by omega)
      have hc : cntR (x :: r) = cntR r + 1 := by simp [cntR, h]
      rw [hc]
      refine ⟨?_, fun e he => ?_⟩
      · rw [ids_cons, if_pos (show 0 < n by omega), h1, List.range_succ_eq_map, List.map_cons, List.map_map]
        congr 1
        · simp
        · apply List.map_congr_left
          intro k _
          simp only [Function.comp]
          omega
      · rcases List.mem_cons.1 he with rfl | he
        · show 0 ≤ n ∧ n < _; omega
        · have := h2 e he; omega
    · rename_i h
      obtain ⟨h1, h2⟩ := ids_num r n hn
      have hc : cntR (x :: r) = cntR r := by simp [cntR, h]
      rw [hc]
      refine ⟨?_, fun e he => ?_⟩
      · rw [ids_cons, if_neg (show ¬ (0 : Int) < 0 by omega), h1]
      · rcases List.mem_cons.1 he with rfl | he
        · show 0 ≤ (0 : Int) ∧ (0 : Int) < _; omega
        · exact h2 e he
def refDo (M : RLs) (e : Edt) : RLs := if e.1 = 1 then (refRep M e.2.1 e.2.2).1 else if e.1 = 2 then (refDel M e.2.1).1 else (refIns M e.2.1 e.2.2).1
end Q
end Ab
end Go.Proofs.YtnimhpgacmojiaaGreatDoor
namespace Go.Proofs.YtnimhpgacmojiaaGreatDoor
open Go.RowKit
namespace Ab
set_option maxRecDepth 100000
namespace Q
def prPl (es : List Ent) (id : Int) : Bool → Nat → Nat × Int → Prop
  | false, j, x => x.1 = j ∧ x.2 = 0 ∧ ((es.filter live).take x.1).any (hasId id) = false
  | true, _, x => x.2 = plcL es id
end Q
end Ab
end Go.Proofs.YtnimhpgacmojiaaGreatDoor
namespace Go.Proofs.YtnimhpgacmojiaaGreatDoor
open Go.RowKit
namespace Ab
set_option maxRecDepth 100000
namespace Q
end Q
end Ab
end Go.Proofs.YtnimhpgacmojiaaGreatDoor
namespace Go.Proofs.YtnimhpgacmojiaaGreatDoor
open Go.RowKit
namespace Ab
set_option maxRecDepth 100000
namespace Q
end Q
end Ab
end Go.Proofs.YtnimhpgacmojiaaGreatDoor
namespace Go.Proofs.YtnimhpgacmojiaaGreatDoor
open Go.RowKit
namespace Ab
set_option maxRecDepth 100000
namespace Q
abbrev zRL : List C := [.lit (.slice none 0 0), .lit (.int .i64 0)]
end Q
end Ab
end Go.Proofs.YtnimhpgacmojiaaGreatDoor
namespace Go.Proofs.YtnimhpgacmojiaaGreatDoor
open Go.RowKit
namespace Ab
set_option maxRecDepth 100000
namespace Q
def insT (es : List Ent) (j : Nat) (e : Ent) (i : Nat) : List Ent := if i < j then es.take i else insE (es.take i) j e
end Q
end Ab
end Go.Proofs.YtnimhpgacmojiaaGreatDoor
namespace Go.Proofs.YtnimhpgacmojiaaGreatDoor
open Go.RowKit
namespace Ab
set_option maxRecDepth 100000
namespace Q
def doB (num at_ id bad at2 want : Int) : Bool := ((true && decide (num = bad)) && decide (at_ = at2)) && decide (id = want)
end Q
end Ab
end Go.Proofs.YtnimhpgacmojiaaGreatDoor
namespace Go.Proofs.YtnimhpgacmojiaaGreatDoor
open Go.RowKit
namespace Ab
set_option maxRecDepth 100000
namespace Q
def plays (L : Lst) (s : List Edt) (i : Nat) : Lst := (s.take i).foldl doL L
end Q
end Ab
end Go.Proofs.YtnimhpgacmojiaaGreatDoor
namespace Go.Proofs.YtnimhpgacmojiaaGreatDoor
open Go.RowKit
namespace Ab
set_option maxRecDepth 100000
namespace Q
def al0 : List Ent := [((3, ⟨#[65, 58, 32, 49, 10]⟩, [(⟨#[65]⟩, ⟨#[49]⟩)]), 1)]
def alF : List Fld := [(⟨#[66]⟩, ⟨#[50]⟩)]
def al1 : List Ent := insE al0 0 (itmOf alF, 2)
end Q
end Ab
end Go.Proofs.YtnimhpgacmojiaaGreatDoor
namespace Go.Proofs.YtnimhpgacmojiaaGreatDoor
open Go.RowKit
namespace Ab
set_option maxRecDepth 100000
namespace Q
structure SeenI (es : List Ent) (n : Int) (i : Nat) (sn : List Bool) : Prop where
  le : i ≤ (stzL es).length
  len : sn.length = n.toNat
  seen : ∀ k : Nat, sn.getD k false = true → ∃ j, j < i ∧ ((stzL es).getD j ((0 : Int), ([] : List Fld))).1 = k
end Q
end Ab
end Go.Proofs.YtnimhpgacmojiaaGreatDoor
namespace Go.Proofs.YtnimhpgacmojiaaGreatDoor
open Go.RowKit
namespace Ab
set_option maxRecDepth 100000
namespace Q
theorem indexS_c (f : FuncId) {k κ : Nat} {β : Type} (S : Rd β) (y : β) (l : List Stz) (p : Stz → Bool) (hp : ∀ x ∈ l, ACall Tryz.prog f [.agg (toL rStz x), .one (.adk κ S y)] (ib (p x))) : ACall Tryz.prog 92 [.one (.slk k rStz l), .one (.clo f (.adk κ S y))] (ii .i64 (ixOf p l)) := by
  refine acall_of (rs := [4]) Tryz.func92 rfl rfl rfl teOk rfl ?_
  refine acode_seq ?_
  refine acode_region ?_
  refine acode_seq ?_
  refine acode_seq ?_
  refine acode_region ?_
  intro l1_1
  try simp only [Int.toNat_natCast, dflt_sl, dflt_st, dflt_str, dflt_int, dflt_bool] at l1_1
  refine acode_block ?_
  refine acode_loopP (fun (i : Nat) => i ≤ l.length ∧ (l.take i).any p = false) (fun (i : Nat) => [(0, .one (.slk k rStz l)), (1, .one (.clo f (.adk κ S y))), (7, ii .i64 l.length), (8, ii .i64 i)]) (fun (i : Nat) => []) 0 (fun (i : Nat) => l.length - i) 0 (⟨Nat.zero_le _, rfl⟩) (le_of ⟨rfl, rfl, rfl, rfl⟩ trivial rfl) ?_
  intro i hI0
  obtain ⟨hi, hn⟩ := hI0
  refine acode_seq ?_
  refine acode_region ?_
  refine acode_seq ?_
  refine acode_cond rfl (fun h9 => ?_) (fun h9 => ?_)
  ·try simp only [decide_eq_true_eq] at h9
   try simp only [Int.toNat_natCast, dflt_sl, dflt_st, dflt_str, dflt_int, dflt_bool] at h9
   refine acode_skip ?_
   refine acode_seq ?_
   refine acode_block ?_
   refine acode_seq ?_
   refine acode_region ?_
   refine acode_seq ?_
   refine acode_region ?_
   refine And.intro (by first | omega | assumption | decide | (simp only [Int.toNat_natCast, dflt_sl, dflt_st, dflt_str, dflt_int, dflt_bool]; omega) | (simp <;> omega)) ?_
   refine Or.inl ?_
   refine And.intro (rfl) ?_
   refine Exists.intro _ (And.intro (hp _ (getD_mem (show i < l.length by omega) _)) ?_)
   refine acode_cond rfl (fun h16 => ?_) (fun h16 => ?_)
   ·try simp only [decide_eq_true_eq, decide_eq_false_iff_not, Bool.and_eq_true, Bool.not_eq_true', Bool.not_eq_false', Bool.or_eq_false_iff, Bool.or_eq_true, Bool.and_eq_false_iff, Int.not_lt, Int.not_le] at h16
    try simp only [Int.toNat_natCast, dflt_sl, dflt_st, dflt_int] at h16
    refine acode_seq ?_
    refine acode_region ?_
    refine acode_ret ?_
    exact ii_eq (ixOf_at ((0 : Int), ([] : List Fld)) (by omega) hn h16).symm
   ·try simp only [decide_eq_true_eq, decide_eq_false_iff_not, Bool.and_eq_true, Bool.not_eq_true', Bool.not_eq_false', Bool.or_eq_false_iff, Bool.or_eq_true, Bool.and_eq_false_iff, Int.not_lt, Int.not_le] at h16
    try simp only [Int.toNat_natCast, dflt_sl, dflt_st, dflt_int] at h16
    refine acode_skip ?_
    refine acode_region ?_
    refine And.intro (by first | omega | assumption | decide | (simp only [Int.toNat_natCast, dflt_sl, dflt_st, dflt_str, dflt_int, dflt_bool]; omega) | (simp <;> omega)) ?_
    exact ⟨i + 1, ⟨by omega, by rw [take_any l p ((0 : Int), ([] : List Fld)) i (by omega), hn]; exact h16⟩, by first | omega | (simp <;> omega), le_of ⟨rfl, rfl, rfl, rfl⟩ trivial rfl⟩
  ·try simp only [decide_eq_false_iff_not, Int.not_lt] at h9
   try simp only [Int.toNat_natCast, dflt_sl, dflt_st, dflt_str, dflt_int, dflt_bool] at h9
   refine acode_exit ?_
   refine acode_seq ?_
   refine acode_region ?_
   refine acode_ret ?_
   have e : i = l.length := by omega
   subst e
   rw [List.take_length] at hn
   exact ii_eq (ixOf_none hn).symm
theorem tyStz : TyOk Tryz.prog 27 ty27 := tyOk27
def keepF (p : Stz → Bool) (l : List Stz) : List Stz := l.filter fun x => !p x
structure DelI (p : Stz → Bool) (l : List Stz) (j : Nat) (ys : List Stz) : Prop where
  le : j ≤ l.length
  len : ys.length = l.length
  lt : (keepF p (l.take j)).length < j
  pre : ys.take (keepF p (l.take j)).length = keepF p (l.take j)
  suf : ys.drop j = l.drop j
theorem keepF_snoc {p : Stz → Bool} {l : List Stz} {j : Nat} (h : j < l.length) : keepF p (l.take (j + 1)) = keepF p (l.take j) ++ if p (l.getD j ((0 : Int), ([] : List Fld))) then [] else [l.getD j ((0 : Int), ([] : List Fld))] := by
  unfold keepF
  rw [← take_snoc ((0 : Int), ([] : List Fld)) h, List.filter_append]
  congr 1
  generalize l.getD j ((0 : Int), ([] : List Fld)) = x
  cases e : p x <;> simp [e]
theorem DelI.at {p : Stz → Bool} {l ys : List Stz} {j : Nat} (h : DelI p l j ys) (hj : j < l.length) : ys.getD j ((0 : Int), ([] : List Fld)) = l.getD j ((0 : Int), ([] : List Fld)) := by
  have h1 := congrArg (fun m => m.getD 0 ((0 : Int), ([] : List Fld))) h.suf
  simpa [List.getD_eq_getElem?_getD, List.getElem?_drop] using h1
theorem DelI.skip {p : Stz → Bool} {l ys : List Stz} {j : Nat} (h : DelI p l j ys) (hj : j < l.length) (hp : p (l.getD j ((0 : Int), ([] : List Fld))) = true) : DelI p l (j + 1) ys ∧ (keepF p (l.take (j + 1))).length = (keepF p (l.take j)).length := by
  have e := keepF_snoc (p := p) hj
  rw [hp, if_pos rfl, List.append_nil] at e
  refine ⟨⟨hj, h.len, by rw [e]; have := h.lt; omega, by rw [e]; exact h.pre, ?_⟩, by rw [e]⟩
  rw [← List.drop_drop, h.suf, List.drop_drop]
theorem DelI.keep {p : Stz → Bool} {l ys : List Stz} {j : Nat} (h : DelI p l j ys) (hj : j < l.length) (hp : p (l.getD j ((0 : Int), ([] : List Fld))) = false) : DelI p l (j + 1) (ys.set (keepF p (l.take j)).length (l.getD j ((0 : Int), ([] : List Fld)))) ∧ (keepF p (l.take (j + 1))).length = (keepF p (l.take j)).length + 1 := by
  have e := keepF_snoc (p := p) hj
  rw [hp, if_neg Bool.false_ne_true] at e
  have hlt := h.lt
  have hl := h.len
  obtain ⟨i, hi⟩ : ∃ i, (keepF p (l.take j)).length = i := ⟨_, rfl⟩
  have hpre := h.pre
  rw [hi] at hlt hpre ⊢
  have e2 : (keepF p (l.take (j + 1))).length = i + 1 := by rw [e, List.length_append, hi]; rfl
  refine ⟨⟨hj, by rw [List.length_set]; exact hl, by omega, ?_, ?_⟩, e2⟩
  · rw [e2, e, List.take_succ_eq_append_getElem (by rw [List.length_set]; omega), List.take_set, List.getElem_set_self, List.set_eq_of_length_le (by rw [List.length_take]; omega), hpre]
  · rw [List.drop_set_of_lt (by omega), ← List.drop_drop, h.suf, List.drop_drop]
theorem DelI.init {p : Stz → Bool} {l : List Stz} {i : Nat} (hi : i < l.length) (hn : (l.take i).any p = false) (hp : p (l.getD i ((0 : Int), ([] : List Fld))) = true) : DelI p l (i + 1) l ∧ (keepF p (l.take (i + 1))).length = i := by
  have e0 : keepF p (l.take i) = l.take i := by
    unfold keepF
    refine List.filter_eq_self.2 fun x hx => ?_
    have := List.any_eq_false.1 hn x hx
    simpa using this
  have e := keepF_snoc (p := p) hi
  rw [hp, if_pos rfl, List.append_nil, e0] at e
  have e2 : (keepF p (l.take (i + 1))).length = i := by rw [e, List.length_take]; omega
  exact ⟨⟨hi, rfl, by omega, by rw [e2, e], rfl⟩, e2⟩
theorem keepF_all {p : Stz → Bool} {l : List Stz} (h : l.any p = false) : keepF p l = l := by
  unfold keepF
  refine List.filter_eq_self.2 fun x hx => ?_
  have := List.any_eq_false.1 h x hx
  simpa using this
theorem deleteS_o (f : FuncId) {κ : Nat} {β : Type} (S : Rd β) (y : β) (l : List Stz) (p : Stz → Bool) (hp : ∀ x ∈ l, ACall Tryz.prog f [.agg (toL rStz x), .one (.adk κ S y)] (ib (p x))) (hl : l.length ≤ 1000000) : ACallO Tryz.prog 89 [.one (.vec 0), .one (.clo f (.adk κ S y))] [(0, .vec 27 rStz l)] 1 (.one (.vec 0)) [(0, .vec 27 rStz (keepF p l))] 1 := by
  have hix := indexS_c f (k := 1) S y l p hp
  rcases ixOf_cases p l ((0 : Int), ([] : List Fld)) with ⟨h1, h2⟩ | ⟨i0, h1, h2, h3, h4⟩
  · rw [h1] at hix
    refine acallo_of (rs := [4]) Tryz.func89 rfl rfl rfl teOk (by decide) rfl ?_
    refine acode_seq ?_
    refine acode_region ?_
    refine acode_seq ?_
    refine acode_region ?_
    refine Or.inr (Or.inr (Or.inl ?_))
    refine And.intro rfl ?_
    refine Exists.intro _ (And.intro (hix) ?_)
    refine acode_seq ?_
    refine acode_seq ?_
    refine acode_region ?_
    refine acode_cond rfl (fun h12 => ?_) (fun h12 => ?_)
    ·try simp only [decide_eq_true_eq] at h12
     try simp only [Int.toNat_natCast, dflt_sl, dflt_st, dflt_str, dflt_int, dflt_bool] at h12
     refine acode_seq ?_
     refine acode_region ?_
     refine acode_ret ?_
     rw [keepF_all h2]
     exact ⟨rfl, rfl, rfl⟩
    ·try simp only [decide_eq_false_iff_not] at h12
     try simp only [Int.toNat_natCast, dflt_sl, dflt_st, dflt_str, dflt_int, dflt_bool] at h12
     simp at h12
  · rw [h2] at hix
    obtain ⟨hd0, hk0⟩ := DelI.init h1 h3 h4
    refine acallo_of (rs := [4]) Tryz.func89 rfl rfl rfl teOk (by decide) rfl ?_
    refine acode_seq ?_
    refine acode_region ?_
    refine acode_seq ?_
    refine acode_region ?_
    refine Or.inr (Or.inr (Or.inl ?_))
    refine And.intro rfl ?_
    refine Exists.intro _ (And.intro (hix) ?_)
    refine acode_seq ?_
    refine acode_seq ?_
    refine acode_region ?_
    refine acode_cond rfl (fun h12 => ?_) (fun h12 => ?_)
    ·try simp only [decide_eq_true_eq] at h12
     try simp only [Int.toNat_natCast, dflt_sl, dflt_st, dflt_str, dflt_int, dflt_bool] at h12
     omega
    ·try simp only [decide_eq_false_iff_not] at h12
     try simp only [Int.toNat_natCast, dflt_sl, dflt_st, dflt_str, dflt_int, dflt_bool] at h12
     refine acode_skip ?_
     refine acode_seq ?_
     refine acode_seq ?_
     refine acode_region ?_
     refine And.intro (by first | omega | assumption | decide | (simp only [Int.toNat_natCast, dflt_sl, dflt_st, dflt_str, dflt_int, dflt_bool]; omega) | (simp <;> omega)) ?_
     refine acode_block ?_
     refine acode_loopP (fun (x : Nat × List Stz) => DelI p l x.1 x.2) (fun (x : Nat × List Stz) => [(0, .one (.vec 0)), (1, .one (.clo f (.adk κ S y))), (5, ii .i64 ((keepF p (l.take x.1)).length : Int)), (6, ii .i64 x.1)]) (fun (x : Nat × List Stz) => [(0, .vec 27 rStz x.2)]) 1 (fun (x : Nat × List Stz) => l.length - x.1) (i0 + 1, l) (hd0) (le_of ⟨rfl, rfl, (ii_eq (by rw [hk0])), (ii_eq (by simp only; omega))⟩ rfl rfl) ?_
     intro ⟨j, ys⟩ hI0
     simp only at hI0 ⊢
     have hj1 := hI0.le
     have hj2 := hI0.len
     have hj3 := hI0.lt
     refine acode_seq ?_
     refine acode_seq ?_
     refine acode_region ?_
     intro l5_2
     try simp only [Int.toNat_natCast, dflt_sl, dflt_st, dflt_str, dflt_int, dflt_bool] at l5_2
     refine acode_cond rfl (fun h19 => ?_) (fun h19 => ?_)
     ·try simp only [decide_eq_true_eq] at h19
      try simp only [Int.toNat_natCast, dflt_sl, dflt_st, dflt_str, dflt_int, dflt_bool] at h19
      have hjl : j < l.length := (by omega)
      have hya := hI0.at hjl
      refine acode_skip ?_
      refine acode_seq ?_
      refine acode_block ?_
      refine acode_seq ?_
      refine acode_region ?_
      refine And.intro (by first | omega | assumption | decide | (simp only [Int.toNat_natCast, dflt_sl, dflt_st, dflt_str, dflt_int, dflt_bool]; omega) | (simp <;> omega)) ?_
      refine And.intro (by (first | omega | (simp only [Int.toNat_natCast]; omega))) ?_
      refine acode_seq ?_
      refine acode_region ?_
      refine Or.inl ?_
      refine And.intro (rfl) ?_
      refine Exists.intro _ (And.intro (hp (ys.getD j ((0 : Int), ([] : List Fld))) (by rw [hya]; exact getD_mem hjl ((0 : Int), ([] : List Fld)))) ?_)
      refine acode_cond rfl (fun h29 => ?_) (fun h29 => ?_)
      ·try simp only [Bool.not_eq_true'] at h29
       try simp only [Int.toNat_natCast, dflt_sl, dflt_st, dflt_str, dflt_int, dflt_bool] at h29
       rw [hya] at h29
       obtain ⟨hk1, hk2⟩ := hI0.keep hjl h29
       refine acode_seq ?_
       refine acode_region ?_
       refine And.intro (by (first | omega | (simp only [Int.toNat_natCast]; omega))) ?_
       refine And.intro (by (first | omega | (simp only [Int.toNat_natCast]; omega))) ?_
       refine acode_region ?_
       refine And.intro (by first | omega | assumption | decide | (simp only [Int.toNat_natCast, dflt_sl, dflt_st, dflt_str, dflt_int, dflt_bool]; omega) | (simp <;> omega)) ?_
       refine acode_region ?_
       refine And.intro (by first | omega | assumption | decide | (simp only [Int.toNat_natCast, dflt_sl, dflt_st, dflt_str, dflt_int, dflt_bool]; omega) | (simp <;> omega)) ?_
       exact ⟨(j + 1, ys.set (keepF p (l.take j)).length (l.getD j ((0 : Int), ([] : List Fld)))), hk1, by first | omega | (simp <;> omega), le_of ⟨rfl, rfl, (ii_eq (by simp only; omega)), (ii_eq (by simp only; omega))⟩ (vec_eq (by simp only; rw [← hya]; try exact rfl)) rfl⟩
      ·try simp only [Bool.not_eq_false'] at h29
       try simp only [Int.toNat_natCast, dflt_sl, dflt_st, dflt_str, dflt_int, dflt_bool] at h29
       rw [hya] at h29
       obtain ⟨hk1, hk2⟩ := hI0.skip hjl (by simpa using h29)
       refine acode_skip ?_
       refine acode_region ?_
       refine And.intro (by first | omega | assumption | decide | (simp only [Int.toNat_natCast, dflt_sl, dflt_st, dflt_str, dflt_int, dflt_bool]; omega) | (simp <;> omega)) ?_
       exact ⟨(j + 1, ys), hk1, by first | omega | (simp <;> omega), le_of ⟨rfl, rfl, (ii_eq (by simp only; omega)), (ii_eq (by simp only; omega))⟩ rfl rfl⟩
     ·try simp only [decide_eq_false_iff_not, Int.not_lt] at h19
      try simp only [Int.toNat_natCast, dflt_sl, dflt_st, dflt_str, dflt_int, dflt_bool] at h19
      refine acode_exit ?_
      have hje : j = l.length := (by omega)
      subst hje
      have hpre := hI0.pre
      rw [List.take_length] at hpre hj3 ⊢
      obtain ⟨i, hi⟩ : ∃ i, (keepF p l).length = i := ⟨_, rfl⟩
      rw [hi] at hj3 hpre ⊢
      refine acode_seq ?_
      refine acode_part [_, _] [_, _] rfl (Eq.refl _) ?_
      intro hte rd n cx e1 e2 ρ a w hs
      refine clear_sound (kk := i) (xs := ys) Tryz.underlying36 tyStz (z := ((0 : Int), ([] : List Fld))) rfl rfl rfl rfl rfl rfl rfl rfl (by rw [e1]; decide) hs rfl rfl rfl (by omega) (fun a w hs' => ⟨_, _, _, _, ?_, hs'⟩)
      clear hs hte
      refine acode_seq ?_
      refine acode_part [_, _] [_, _] rfl (Eq.refl _) ?_
      intro hte rd n cx e1 e2 ρ a w hs
      refine cut_sound (kk := i) Tryz.underlying36 tyStz rfl rfl rfl rfl (by rw [e1]; decide) hs rfl rfl rfl (by simp; omega) (fun ρ a hs' => ?_)
      refine awp_last hte e1 e2 [_] hs' (Eq.refl _) ?_
      clear hs hte hs'
      refine acode_ret ?_
      exact ⟨rfl, vec_eq (by rw [List.take_append_of_le_length (by rw [List.length_take]; omega), List.take_take, Nat.min_self]; exact hpre), rfl⟩
end Q
end Ab
end Go.Proofs.YtnimhpgacmojiaaGreatDoor
namespace Go.Proofs.YtnimhpgacmojiaaGreatDoor
open Go.RowKit
namespace Ab
set_option maxRecDepth 100000
abbrev Term := Bool × ByteArray × Int × ByteArray
abbrev rTerm : Rd Term := .st .bool (.st .str (.st (.int .i64) .str))
namespace Q
namespace QQ
def begins (s w : ByteArray) (n : Nat) : Bool := decide (n + w.size ≤ s.size) && decide (s.extract n (n + w.size) = w)
theorem begins_c (s w : ByteArray) (n : Nat) (h1 : s.size ≤ 1000000000) (h2 : w.size ≤ 1000000000) (h3 : n ≤ 1000000000) : ACall Tryz.prog 174 [is s, is w, ii .i64 n] (ib (begins s w n)) := by
  refine acall_of (rs := [6]) Tryz.func174 rfl rfl rfl teOk rfl ?_
  refine acode_seq ?_
  refine acode_region ?_
  refine acode_seq ?_
  refine acode_region ?_
  refine And.intro (by first | omega | assumption | decide | (simp only [Int.toNat_natCast, dflt_sl, dflt_st, dflt_str, dflt_int, dflt_bool]; omega) | (simp <;> omega)) ?_
  refine And.intro (fun h => trivial) ?_
  refine And.intro (fun h => trivial) ?_
  refine And.intro (fun h => trivial) ?_
  refine And.intro (fun h => trivial) ?_
  refine And.intro (fun h => ⟨⟨h, trivial⟩, trivial⟩) ?_
  refine And.intro (fun h => ⟨⟨⟨h, trivial⟩, ⟨h, trivial⟩, trivial⟩, by first | omega | decide | (simp only [Int.toNat_natCast, dflt_sl, dflt_st, dflt_str, dflt_int, dflt_bool]; omega) | (have h9 := of_decide_eq_true h; omega) | (simp [gq] at h; omega)⟩) ?_
  refine And.intro (fun h => ⟨⟨⟨h, trivial⟩, ⟨h, trivial⟩, ⟨h, trivial⟩, trivial⟩, by first | omega | decide | (simp only [Int.toNat_natCast, dflt_sl, dflt_st, dflt_str, dflt_int, dflt_bool]; omega) | (have h9 := of_decide_eq_true h; omega) | (simp [gq] at h; omega)⟩) ?_
  refine And.intro (fun h => trivial) ?_
  refine And.intro (fun h => ⟨⟨h, trivial⟩, ⟨h, trivial⟩, trivial⟩) ?_
  refine And.intro (by exact fun h => h) ?_
  refine acode_ret ?_
  refine ib_eq ?_
  unfold begins
  congr 1
  exact decide_eq_decide.2 (by omega)
def ok0 (t : Term) (v : ByteArray) : Bool := ((decide (t.2.2.1 = 1) || (decide (t.2.2.1 = 2) && decide (v = t.2.2.2))) || (decide (t.2.2.1 = 3) && begins v t.2.2.2 0)) || (decide (t.2.2.1 = 5) && Op.bytesLess v.toList t.2.2.2.toList)
def okV (t : Term) (v : ByteArray) : Bool := ok0 t v || (decide (t.2.2.1 = 4) && (List.range (v.size + 1)).any (begins v t.2.2.2))
def okF (t : Term) (f : Fld) : Bool := decide (f.1 = t.2.1) && okV t f.2
def bad (t : Term) : Bool := decide (t.2.2.1 < 1) || decide (5 < t.2.2.1)
def refMatches (t : Term) (l : List Fld) : Bool := !bad t && !decide (l.any (okF t) = t.1)
theorem matches_c (t : Term) (l : List Fld) (hl : ∀ f ∈ l, f.2.size ≤ 1000000000) (ht : t.2.2.2.size ≤ 1000000000) : ACall Tryz.prog 153 [.agg (toL rTerm t), .one (.sl rFld l)] (ib (refMatches t l)) := by
  refine acall_of (rs := [4]) Tryz.func153 rfl rfl rfl teOk rfl ?_
  refine acode_seq ?_
  refine acode_region ?_
  refine acode_seq ?_
  refine acode_seq ?_
  refine acode_region ?_
  refine And.intro (fun h => trivial) ?_
  refine And.intro (fun h => ⟨⟨h, trivial⟩, trivial⟩) ?_
  refine And.intro (fun h => ⟨⟨h, trivial⟩, trivial⟩) ?_
  refine And.intro (by first | (intro h; rw [h]; rfl) | (intro h; cases h)) ?_
  refine acode_cond rfl (fun h17 => ?_) (fun h17 => ?_)
  ·try simp only [decide_eq_true_eq, Bool.or_eq_true] at h17
   try simp only [Int.toNat_natCast, dflt_sl, dflt_st, dflt_str, dflt_int, dflt_bool] at h17
   refine acode_seq ?_
   refine acode_region ?_
   refine acode_ret ?_
   refine ib_eq ?_
   unfold refMatches bad
   rcases h17 with h | h <;> simp [h]
  ·try simp only [decide_eq_false_iff_not, Bool.or_eq_false_iff, Int.not_lt] at h17
   try simp only [Int.toNat_natCast, dflt_sl, dflt_st, dflt_str, dflt_int, dflt_bool] at h17
   refine acode_skip ?_
   refine acode_seq ?_
   refine acode_region ?_
   refine acode_seq ?_
   refine acode_seq ?_
   refine acode_region ?_
   refine acode_block ?_
   refine acode_loopP (fun (i : Nat) => i ≤ l.length) (fun (i : Nat) => [(1, .one (.sl rFld l)), (2, .one (.own 0 0)), (5, ib ((l.take i).any (okF t))), (6, ii .i64 i)]) (fun (i : Nat) => [(0, .box 122 (toL rTerm t))]) 1 (fun (i : Nat) => l.length - i) 0 (Nat.zero_le _) (le_of ⟨rfl, rfl, rfl, rfl⟩ rfl rfl) ?_
   intro i hI0
   refine acode_seq ?_
   refine acode_seq ?_
   refine acode_region ?_
   intro l5_2
   try simp only [Int.toNat_natCast, dflt_sl, dflt_st, dflt_str, dflt_int, dflt_bool] at l5_2
   refine acode_cond rfl (fun h21 => ?_) (fun h21 => ?_)
   ·try simp only [decide_eq_true_eq] at h21
    try simp only [Int.toNat_natCast, dflt_sl, dflt_st, dflt_str, dflt_int, dflt_bool] at h21
    have hv : (l.getD i ⟨.empty, .empty⟩).2.size ≤ 1000000000 := by (have hi : i < l.length := by omega); rw [List.getD_eq_getElem?_getD, List.getElem?_eq_getElem hi]; exact hl _ (List.getElem_mem hi)
    refine acode_skip ?_
    refine acode_seq ?_
    refine acode_block ?_
    refine acode_seq ?_
    refine acode_region ?_
    refine And.intro (by first | omega | assumption | decide | (simp only [Int.toNat_natCast, dflt_sl, dflt_st, dflt_str, dflt_int, dflt_bool]; omega) | (simp <;> omega)) ?_
    refine acode_seq ?_
    refine acode_region ?_
    refine And.intro (fun h => trivial) ?_
    refine And.intro (fun h => ⟨⟨h, trivial⟩, trivial⟩) ?_
    refine And.intro (fun h => ⟨⟨h, trivial⟩, trivial⟩) ?_
    refine And.intro (fun h => ⟨⟨h, trivial⟩, trivial⟩) ?_
    refine And.intro (fun h => trivial) ?_
    refine And.intro (fun h => trivial) ?_
    refine And.intro (fun h => ⟨⟨h, trivial⟩, trivial⟩) ?_
    refine And.intro (fun h => ⟨⟨h, trivial⟩, ⟨h, trivial⟩, trivial⟩) ?_
    refine And.intro (fun h => ⟨⟨⟨h, trivial⟩, trivial⟩, by first | exact fun h2 => h2 | (intro h2; rw [h, h2]; rfl) | (intro h2; cases h2) | (intro h2; simp_all [gq])⟩) ?_
    refine And.intro (by first | (intro h; rw [h]; rfl) | (intro h; cases h)) ?_
    refine And.intro (fun h => trivial) ?_
    refine And.intro (fun h => ⟨⟨h, trivial⟩, trivial⟩) ?_
    refine And.intro (fun h => ⟨⟨h, trivial⟩, trivial⟩) ?_
    refine And.intro (fun h => ⟨⟨h, trivial⟩, trivial⟩) ?_
    refine And.intro (fun h => trivial) ?_
    refine And.intro (fun h => trivial) ?_
    refine And.intro (fun h => ⟨⟨h, trivial⟩, trivial⟩) ?_
    refine Or.inl ?_
    refine And.intro (rfl) ?_
    refine Exists.intro _ (And.intro (fun h => ⟨⟨⟨h, trivial⟩, ⟨h, trivial⟩, trivial⟩, begins_c _ _ 0 hv ht (by omega)⟩) ?_)
    refine And.intro (fun h => ⟨⟨⟨h, trivial⟩, trivial⟩, by first | exact fun h2 => h2 | (intro h2; rw [h, h2]; rfl) | (intro h2; cases h2) | (intro h2; simp_all [gq])⟩) ?_
    refine And.intro (by first | (intro h; rw [h]; rfl) | (intro h; cases h)) ?_
    refine And.intro (fun h => trivial) ?_
    refine And.intro (fun h => ⟨⟨h, trivial⟩, trivial⟩) ?_
    refine And.intro (fun h => ⟨⟨h, trivial⟩, trivial⟩) ?_
    refine And.intro (fun h => ⟨⟨h, trivial⟩, trivial⟩) ?_
    refine And.intro (fun h => trivial) ?_
    refine And.intro (fun h => trivial) ?_
    refine And.intro (fun h => ⟨⟨h, trivial⟩, trivial⟩) ?_
    refine And.intro (fun h => ⟨⟨h, trivial⟩, ⟨h, trivial⟩, trivial⟩) ?_
    refine And.intro (fun h => ⟨⟨⟨h, trivial⟩, trivial⟩, by first | exact fun h2 => h2 | (intro h2; rw [h, h2]; rfl) | (intro h2; cases h2) | (intro h2; simp_all [gq])⟩) ?_
    refine And.intro (by first | (intro h; rw [h]; rfl) | (intro h; cases h)) ?_
    refine acode_seq ?_
    refine acode_seq ?_
    refine acode_region ?_
    refine acode_block ?_
    refine acode_loopP (fun (j : Nat) => j ≤ (l.getD i ⟨.empty, .empty⟩).2.size + 1) (fun (j : Nat) => [(1, .one (.sl rFld l)), (2, .one (.own 0 0)), (5, ib ((l.take i).any (okF t))), (6, ii .i64 i), (7, is (l.getD i ⟨.empty, .empty⟩).2), (8, ib (ok0 t (l.getD i ⟨.empty, .empty⟩).2 || (decide (t.2.2.1 = 4) && (List.range j).any (begins (l.getD i ⟨.empty, .empty⟩).2 t.2.2.2)))), (9, ii .i64 j)]) (fun (j : Nat) => [(0, .box 122 (toL rTerm t))]) 1 (fun (j : Nat) => (l.getD i ⟨.empty, .empty⟩).2.size + 1 - j) 0 (Nat.zero_le _) (le_of ⟨rfl, rfl, rfl, rfl, rfl, (ib_eq (by rw [show (List.range 0).any (begins (l.getD i (.empty, .empty)).2 t.2.2.2) = false from rfl, Bool.and_false, Bool.or_false]; rfl)), rfl⟩ rfl rfl) ?_
    intro j hI2
    refine acode_seq ?_
    refine acode_seq ?_
    refine acode_region ?_
    refine And.intro (fun h => trivial) ?_
    refine And.intro (fun h => ⟨⟨h, trivial⟩, trivial⟩) ?_
    refine And.intro (fun h => ⟨⟨h, trivial⟩, trivial⟩) ?_
    refine And.intro (by exact fun h => h) ?_
    refine acode_cond rfl (fun h73 => ?_) (fun h73 => ?_)
    ·try simp only [decide_eq_true_eq, Bool.and_eq_true] at h73
     try simp only [Int.toNat_natCast, dflt_sl, dflt_st, dflt_str, dflt_int, dflt_bool] at h73
     refine acode_skip ?_
     refine acode_seq ?_
     refine acode_block ?_
     refine acode_region ?_
     refine And.intro (fun h => trivial) ?_
     refine And.intro (fun h => trivial) ?_
     refine And.intro (fun h => ⟨⟨h, trivial⟩, trivial⟩) ?_
     refine And.intro (fun h => trivial) ?_
     refine Or.inl ?_
     refine And.intro (rfl) ?_
     refine Exists.intro _ (And.intro (fun h => ⟨⟨⟨h, trivial⟩, ⟨h, trivial⟩, ⟨h, trivial⟩, trivial⟩, begins_c _ _ _ hv ht (by omega)⟩) ?_)
     refine And.intro (by first | (intro h; rw [h]; rfl) | (intro h; cases h)) ?_
     refine acode_region ?_
     refine And.intro (by first | omega | assumption | decide | (simp only [Int.toNat_natCast, dflt_sl, dflt_st, dflt_str, dflt_int, dflt_bool]; omega) | (simp <;> omega)) ?_
     exact ⟨j + 1, by omega, by first | omega | (simp <;> omega), le_of ⟨rfl, rfl, rfl, rfl, rfl, (ib_eq (by rw [range_any]; simp [h73.2, Bool.or_assoc])), rfl⟩ rfl rfl⟩
    ·try simp only [decide_eq_false_iff_not, Bool.and_eq_false_iff, Int.not_le] at h73
     try simp only [Int.toNat_natCast, dflt_sl, dflt_st, dflt_str, dflt_int, dflt_bool] at h73
     refine acode_exit ?_
     have e2 : (ok0 t (l.getD i (.empty, .empty)).2 || (decide (t.2.2.1 = 4) && (List.range j).any (begins (l.getD i (.empty, .empty)).2 t.2.2.2))) = okV t (l.getD i (.empty, .empty)).2 := by (unfold okV; exact if h4 : t.2.2.1 = 4 then (by (have e3 : j = (l.getD i (.empty, .empty)).2.size + 1 := by (rcases h73 with h | h <;> omega)); rw [e3]) else (by rw [decide_eq_false h4, Bool.false_and, Bool.false_and]))
     refine acode_draw rfl (by kernel_rfl) ?_
     refine And.intro (fun h => trivial) ?_
     refine And.intro (fun h => trivial) ?_
     refine And.intro (fun h => ⟨⟨⟨h, trivial⟩, ⟨h, trivial⟩, trivial⟩, by first | omega | decide | (simp only [Int.toNat_natCast, dflt_sl, dflt_st, dflt_str, dflt_int, dflt_bool]; omega) | (have h9 := of_decide_eq_true h; omega) | (simp [gq] at h; omega)⟩) ?_
     refine And.intro (fun h => ⟨⟨h, trivial⟩, trivial⟩) ?_
     refine And.intro (fun h => ⟨⟨h, trivial⟩, trivial⟩) ?_
     refine And.intro (fun h => trivial) ?_
     refine And.intro (fun h => ⟨⟨h, trivial⟩, trivial⟩) ?_
     refine And.intro (fun h => ⟨⟨h, trivial⟩, ⟨h, trivial⟩, trivial⟩) ?_
     refine And.intro (fun h => ⟨⟨h, trivial⟩, trivial⟩) ?_
     refine And.intro (fun h => trivial) ?_
     refine And.intro (fun h => ⟨⟨⟨h, trivial⟩, trivial⟩, by first | exact fun h2 => h2 | (intro h2; rw [h, h2]; rfl) | (intro h2; cases h2) | (intro h2; simp_all [gq])⟩) ?_
     refine And.intro (by first | (intro h; rw [h]; rfl) | (intro h; cases h)) ?_
     refine acode_region ?_
     refine And.intro (by first | omega | assumption | decide | (simp only [Int.toNat_natCast, dflt_sl, dflt_st, dflt_str, dflt_int, dflt_bool]; omega) | (simp <;> omega)) ?_
     exact ⟨i + 1, by omega, by first | omega | (simp <;> omega), le_of ⟨rfl, rfl, (ib_eq (by rw [take_any l (okF t) (.empty, .empty) i (by omega)]; show _ = (_ || (decide _ && okV t (l.getD i (.empty, .empty)).2)); rw [← e2]; rfl)), rfl⟩ rfl rfl⟩
   ·try simp only [decide_eq_false_iff_not, Int.not_lt] at h21
    try simp only [Int.toNat_natCast, dflt_sl, dflt_st, dflt_str, dflt_int, dflt_bool] at h21
    refine acode_exit ?_
    refine acode_seq ?_
    refine acode_region ?_
    refine acode_ret ?_
    refine ib_eq ?_
    have e : i = l.length := by omega
    subst e
    unfold refMatches bad
    rw [List.take_length, decide_eq_false (show ¬ t.2.2.1 < 1 by omega), decide_eq_false (show ¬ 5 < t.2.2.1 by omega)]
    rfl
def TermOk (t : Term) : Prop := t.2.1.size ≤ 100 ∧ t.2.2.2.size ≤ 500
def SelOk (s : List (List Term)) : Prop := s.length ≤ 1000 ∧ ∀ r ∈ s, r.length ≤ 1000 ∧ ∀ t ∈ r, TermOk t
def FldsOk (l : List Fld) : Prop := l.length ≤ 1000 ∧ ∀ f ∈ l, f.1.size ≤ 1000000 ∧ f.2.size ≤ 1000000
def refAll (s : List (List Term)) (l : List Fld) : Bool := s.any fun r => r.all fun t => refMatches t l
theorem all_c (s : List (List Term)) (l : List Fld) (hs : SelOk s) (hl : FldsOk l) : ACall Tryz.prog 126 [.one (.sl (.sl rTerm) s), .one (.sl rFld l)] (ib (refAll s l)) := by
  have hl' : ∀ f ∈ l, f.2.size ≤ 1000000000 := fun f hf => Nat.le_trans (hl.2 f hf).2 (by decide)
  refine acall_of (rs := [4]) Tryz.func126 rfl rfl rfl teOk rfl ?_
  refine acode_seq ?_
  refine acode_region ?_
  refine acode_seq ?_
  refine acode_seq ?_
  refine acode_region ?_
  refine acode_block ?_
  refine acode_loopP (fun (i : Nat) => i ≤ s.length ∧ (s.take i).any (fun r => r.all fun t => refMatches t l) = false) (fun (i : Nat) => [(0, .one (.sl (.sl rTerm) s)), (1, .one (.sl rFld l)), (5, ii .i64 i)]) (fun (i : Nat) => []) 0 (fun (i : Nat) => s.length - i) 0 (⟨Nat.zero_le _, rfl⟩) (le_of ⟨rfl, rfl, rfl⟩ trivial rfl) ?_
  intro i hI0
  obtain ⟨hi, hn⟩ := hI0
  refine acode_seq ?_
  refine acode_seq ?_
  refine acode_region ?_
  intro l2_2
  try simp only [Int.toNat_natCast, dflt_sl, dflt_st, dflt_str, dflt_int, dflt_bool] at l2_2
  refine acode_cond rfl (fun h11 => ?_) (fun h11 => ?_)
  ·try simp only [decide_eq_true_eq] at h11
   try simp only [Int.toNat_natCast, dflt_sl, dflt_st, dflt_str, dflt_int, dflt_bool] at h11
   have hr := hs.2 _ (getD_mem (show i < s.length by omega) [])
   refine acode_skip ?_
   refine acode_seq ?_
   refine acode_block ?_
   refine acode_seq ?_
   refine acode_region ?_
   refine acode_seq ?_
   refine acode_seq ?_
   refine acode_region ?_
   refine acode_block ?_
   refine acode_loopP (fun (j : Nat) => j ≤ (s.getD i []).length) (fun (j : Nat) => [(0, .one (.sl (.sl rTerm) s)), (1, .one (.sl rFld l)), (5, ii .i64 i), (6, ib (((s.getD i []).take j).all fun t => refMatches t l)), (7, ii .i64 j)]) (fun (j : Nat) => []) 0 (fun (j : Nat) => (s.getD i []).length - j) 0 (Nat.zero_le _) (le_of ⟨rfl, rfl, rfl, rfl, rfl⟩ trivial rfl) ?_
   intro j hI2
   refine acode_seq ?_
   refine acode_seq ?_
   refine acode_region ?_
   refine And.intro (by first | omega | assumption | decide | (simp only [Int.toNat_natCast, dflt_sl, dflt_st, dflt_str, dflt_int, dflt_bool]; omega) | (simp <;> omega)) ?_
   intro l6_5
   try simp only [Int.toNat_natCast, dflt_sl] at l6_5
   refine acode_cond rfl (fun h20 => ?_) (fun h20 => ?_)
   ·try simp only [decide_eq_true_eq] at h20
    try simp only [Int.toNat_natCast, dflt_sl] at h20
    refine acode_skip ?_
    refine acode_seq ?_
    refine acode_block ?_
    refine acode_region ?_
    refine And.intro (fun h => trivial) ?_
    refine And.intro (fun h => trivial) ?_
    refine And.intro (fun h => ⟨⟨⟨h, trivial⟩, ⟨h, trivial⟩, trivial⟩, by first | omega | decide | (simp only [Int.toNat_natCast, dflt_sl, dflt_st, dflt_str, dflt_int, dflt_bool]; omega) | (have h9 := of_decide_eq_true h; omega) | (simp [gq] at h; omega)⟩) ?_
    refine And.intro (fun h => ⟨⟨h, trivial⟩, trivial⟩) ?_
    refine And.intro (fun h => trivial) ?_
    refine And.intro (fun h => ⟨⟨⟨h, trivial⟩, ⟨h, trivial⟩, trivial⟩, by first | omega | decide | (simp only [Int.toNat_natCast, dflt_sl]; omega) | (have h9 := of_decide_eq_true h; omega) | (simp [gq] at h; omega)⟩) ?_
    refine And.intro (fun h => ⟨⟨h, trivial⟩, trivial⟩) ?_
    refine And.intro (fun h => trivial) ?_
    refine Or.inl ?_
    refine And.intro (rfl) ?_
    refine Exists.intro _ (And.intro (fun h => ⟨⟨⟨h, trivial⟩, ⟨h, trivial⟩, trivial⟩, matches_c _ _ hl' (Nat.le_trans (hr.2 _ (getD_mem (show j < (s.getD i []).length by omega) (false, ByteArray.empty, 0, ByteArray.empty))).2 (by decide))⟩) ?_)
    refine And.intro (by exact fun h => h) ?_
    refine acode_region ?_
    refine And.intro (by first | omega | assumption | decide | (simp only [Int.toNat_natCast, dflt_sl, dflt_st, dflt_str, dflt_int, dflt_bool]; omega) | (simp <;> omega)) ?_
    exact ⟨j + 1, by omega, by first | omega | (simp <;> omega), le_of ⟨rfl, rfl, rfl, (ib_eq (by rw [take_all _ _ (false, ByteArray.empty, 0, ByteArray.empty) j (by omega)]; rfl)), rfl⟩ trivial rfl⟩
   ·try simp only [decide_eq_false_iff_not, Int.not_lt] at h20
    try simp only [Int.toNat_natCast, dflt_sl] at h20
    refine acode_exit ?_
    have e2 : j = (s.getD i []).length := by omega
    subst e2
    refine acode_seq ?_
    refine acode_region ?_
    refine acode_cond rfl (fun h35 => ?_) (fun h35 => ?_)
    ·try simp only [decide_eq_true_eq, decide_eq_false_iff_not, Bool.and_eq_true, Bool.not_eq_true', Bool.not_eq_false', Bool.or_eq_false_iff, Bool.or_eq_true, Bool.and_eq_false_iff, Int.not_lt, Int.not_le] at h35
     try simp only [Int.toNat_natCast, dflt_sl, dflt_st, dflt_str, dflt_int, dflt_bool] at h35
     rw [List.take_length] at h35
     refine acode_seq ?_
     refine acode_region ?_
     refine acode_ret ?_
     refine ib_eq ?_
     exact (any_at (p := fun r => r.all fun t => refMatches t l) [] (by omega) h35).symm
    ·try simp only [decide_eq_true_eq, decide_eq_false_iff_not, Bool.and_eq_true, Bool.not_eq_true', Bool.not_eq_false', Bool.or_eq_false_iff, Bool.or_eq_true, Bool.and_eq_false_iff, Int.not_lt, Int.not_le] at h35
     try simp only [Int.toNat_natCast, dflt_sl, dflt_st, dflt_str, dflt_int, dflt_bool] at h35
     rw [List.take_length] at h35
     refine acode_skip ?_
     refine acode_region ?_
     refine And.intro (by first | omega | assumption | decide | (simp only [Int.toNat_natCast, dflt_sl, dflt_st, dflt_str, dflt_int, dflt_bool]; omega) | (simp <;> omega)) ?_
     exact ⟨i + 1, ⟨by omega, by rw [take_any _ _ [] i (by omega), hn]; exact h35⟩, by first | omega | (simp <;> omega), le_of ⟨rfl, rfl, rfl⟩ trivial rfl⟩
  ·try simp only [decide_eq_false_iff_not, Int.not_lt] at h11
   try simp only [Int.toNat_natCast, dflt_sl, dflt_st, dflt_str, dflt_int, dflt_bool] at h11
   refine acode_exit ?_
   refine acode_seq ?_
   refine acode_region ?_
   refine acode_ret ?_
   refine ib_eq ?_
   have e : i = s.length := by omega
   subst e
   rw [List.take_length] at hn
   exact hn.symm
def bigT (t : Term) : Bool := decide (100 < t.2.1.size) || decide (500 < t.2.2.2.size)
def bigR (r : List Term) : Bool := decide (24 < r.length) || r.any bigT
def largeB (s : List (List Term)) : Bool := decide (25 < s.length) || s.any bigR
def sumF (l : List Fld) : Nat := (l.map fun f => min f.1.size 10000 + min f.2.size 10000).sum
def muchB (l : List Fld) : Bool := decide (61 < l.length) || decide (6000 < sumF l)
end QQ
end Q
end Ab
end Go.Proofs.YtnimhpgacmojiaaGreatDoor
namespace Go.Proofs.YtnimhpgacmojiaaGreatDoor
open Go.RowKit
namespace Ab
set_option maxRecDepth 100000
namespace Q
namespace QQ
theorem index_F (f : FuncId) {β : Type} (S : Rd β) (y : β) (l : List (Fld)) (p : Fld → Bool) (d : Fld) (_hd : (rFld).dflt = d) (hp : ∀ x ∈ l, ACall Tryz.prog f [.agg (toL rFld x), .one (.addr S y)] (ib (p x))) : ACall Tryz.prog 154 [.one (.sl rFld l), .one (.clo f (.addr S y))] (ii .i64 (ixOf p l)) := by
  obtain rfl := _hd
  refine acall_of (rs := [4]) Tryz.func154 rfl rfl rfl teOk rfl ?_
  refine acode_seq ?_
  refine acode_region ?_
  refine acode_seq ?_
  refine acode_seq ?_
  refine acode_region ?_
  intro l1_1
  try simp only [Int.toNat_natCast, dflt_sl, dflt_st, dflt_str, dflt_int, dflt_bool] at l1_1
  refine acode_block ?_
  refine acode_loopP (fun (i : Nat) => i ≤ l.length ∧ (l.take i).any p = false) (fun (i : Nat) => [(0, .one (.sl rFld l)), (1, .one (.clo f (.addr S y))), (7, ii .i64 l.length), (8, ii .i64 i)]) (fun (i : Nat) => []) 0 (fun (i : Nat) => l.length - i) 0 (⟨Nat.zero_le _, rfl⟩) (le_of ⟨rfl, rfl, rfl, rfl⟩ trivial rfl) ?_
  intro i hI0
  obtain ⟨hi, hn⟩ := hI0
  refine acode_seq ?_
  refine acode_region ?_
  refine acode_seq ?_
  refine acode_cond rfl (fun h9 => ?_) (fun h9 => ?_)
  ·try simp only [decide_eq_true_eq] at h9
   try simp only [Int.toNat_natCast, dflt_sl, dflt_st, dflt_str, dflt_int, dflt_bool] at h9
   refine acode_skip ?_
   refine acode_seq ?_
   refine acode_block ?_
   refine acode_seq ?_
   refine acode_region ?_
   refine acode_seq ?_
   refine acode_region ?_
   refine And.intro (by first | omega | assumption | decide | (simp only [Int.toNat_natCast, dflt_sl, dflt_st, dflt_str, dflt_int, dflt_bool]; omega) | (simp <;> omega)) ?_
   refine Or.inl ?_
   refine And.intro (rfl) ?_
   refine Exists.intro _ (And.intro (hp _ (getD_mem (show i < l.length by omega) _)) ?_)
   refine acode_cond rfl (fun h16 => ?_) (fun h16 => ?_)
   ·try simp only [decide_eq_true_eq, decide_eq_false_iff_not, Bool.and_eq_true, Bool.not_eq_true', Bool.not_eq_false', Bool.or_eq_false_iff, Bool.or_eq_true, Bool.and_eq_false_iff, Int.not_lt, Int.not_le] at h16
    try simp only [Int.toNat_natCast, dflt_st, dflt_str] at h16
    refine acode_seq ?_
    refine acode_region ?_
    refine acode_ret ?_
    exact ii_eq (ixOf_at (rFld).dflt (by omega) hn h16).symm
   ·try simp only [decide_eq_true_eq, decide_eq_false_iff_not, Bool.and_eq_true, Bool.not_eq_true', Bool.not_eq_false', Bool.or_eq_false_iff, Bool.or_eq_true, Bool.and_eq_false_iff, Int.not_lt, Int.not_le] at h16
    try simp only [Int.toNat_natCast, dflt_st, dflt_str] at h16
    refine acode_skip ?_
    refine acode_region ?_
    refine And.intro (by first | omega | assumption | decide | (simp only [Int.toNat_natCast, dflt_sl, dflt_st, dflt_str, dflt_int, dflt_bool]; omega) | (simp <;> omega)) ?_
    exact ⟨i + 1, ⟨by omega, by rw [take_any l p (rFld).dflt i (by omega), hn]; exact h16⟩, by first | omega | (simp <;> omega), le_of ⟨rfl, rfl, rfl, rfl⟩ trivial rfl⟩
  ·try simp only [decide_eq_false_iff_not, Int.not_lt] at h9
   try simp only [Int.toNat_natCast, dflt_sl, dflt_st, dflt_str, dflt_int, dflt_bool] at h9
   refine acode_exit ?_
   refine acode_seq ?_
   refine acode_region ?_
   refine acode_ret ?_
   have e : i = l.length := by omega
   subst e
   rw [List.take_length] at hn
   exact ii_eq (ixOf_none hn).symm
theorem contains_F (f : FuncId) {β : Type} (S : Rd β) (y : β) (l : List (Fld)) (p : Fld → Bool) (d : Fld) (hd : (rFld).dflt = d) (hp : ∀ x ∈ l, ACall Tryz.prog f [.agg (toL rFld x), .one (.addr S y)] (ib (p x))) : ACall Tryz.prog 127 [.one (.sl rFld l), .one (.clo f (.addr S y))] (ib (l.any p)) := by
  refine acall_of (rs := [4]) Tryz.func127 rfl rfl rfl teOk rfl ?_
  refine acode_seq ?_
  refine acode_region ?_
  refine acode_seq ?_
  refine acode_region ?_
  refine Or.inl ?_
  refine And.intro (rfl) ?_
  refine Exists.intro _ (And.intro (index_F f S y l p d hd hp) ?_)
  refine acode_ret ?_
  exact ib_eq (ixOf_ge p l)
def ofB (t : Term) (v : ByteArray) : Bool := if t.2.2.1 = 1 then true else if t.2.2.1 = 2 then decide (v = t.2.2.2) else if t.2.2.1 = 3 then Lib.hasPrefix v.data.toList t.2.2.2.data.toList
  else if t.2.2.1 = 4 then Lib.contains v.data.toList t.2.2.2.data.toList else Op.bytesLess v.toList t.2.2.2.toList
theorem of_c (t : Term) (v : ByteArray) (hv : v.size ≤ 1000000) : ACall Tryz.prog 129 [.agg (toL rTerm t), is v] (ib (ofB t v)) := by
  refine acall_of (rs := [4]) Tryz.func129 rfl rfl rfl teOk rfl ?_
  refine acode_seq ?_
  refine acode_region ?_
  refine acode_seq ?_
  refine acode_seq ?_
  refine acode_region ?_
  refine acode_block ?_
  refine acode_seq ?_
  refine acode_region ?_
  refine acode_cond rfl (fun h7 => ?_) (fun h7 => ?_)
  ·try simp only [decide_eq_true_eq] at h7
   try simp only [Int.toNat_natCast, dflt_sl, dflt_st, dflt_str, dflt_int, dflt_bool] at h7
   refine acode_seq ?_
   refine acode_region ?_
   refine acode_ret ?_
   refine ib_eq ?_
   unfold ofB
   rw [if_pos h7]
  ·try simp only [decide_eq_false_iff_not] at h7
   try simp only [Int.toNat_natCast, dflt_sl, dflt_st, dflt_str, dflt_int, dflt_bool] at h7
   refine acode_seq ?_
   refine acode_region ?_
   refine acode_cond rfl (fun h9 => ?_) (fun h9 => ?_)
   ·try simp only [decide_eq_true_eq] at h9
    try simp only [Int.toNat_natCast, dflt_sl, dflt_st, dflt_str, dflt_int, dflt_bool] at h9
    refine acode_seq ?_
    refine acode_region ?_
    refine acode_ret ?_
    refine ib_eq ?_
    unfold ofB
    rw [if_neg h7, if_pos h9]
   ·try simp only [decide_eq_false_iff_not] at h9
    try simp only [Int.toNat_natCast, dflt_sl, dflt_st, dflt_str, dflt_int, dflt_bool] at h9
    refine acode_seq ?_
    refine acode_region ?_
    refine acode_cond rfl (fun h15 => ?_) (fun h15 => ?_)
    ·try simp only [decide_eq_true_eq] at h15
     try simp only [Int.toNat_natCast, dflt_sl, dflt_st, dflt_str, dflt_int, dflt_bool] at h15
     refine acode_seq ?_
     refine acode_region ?_
     refine Or.inl ?_
     refine And.intro (rfl) ?_
     refine Exists.intro _ (And.intro (hasPrefix_c _ _) ?_)
     refine acode_ret ?_
     refine ib_eq ?_
     unfold ofB
     rw [if_neg h7, if_neg h9, if_pos h15]
    ·try simp only [decide_eq_false_iff_not] at h15
     try simp only [Int.toNat_natCast, dflt_sl, dflt_st, dflt_str, dflt_int, dflt_bool] at h15
     refine acode_seq ?_
     refine acode_region ?_
     refine acode_cond rfl (fun h21 => ?_) (fun h21 => ?_)
     ·try simp only [decide_eq_true_eq] at h21
      try simp only [Int.toNat_natCast, dflt_sl, dflt_st, dflt_str, dflt_int, dflt_bool] at h21
      refine acode_seq ?_
      refine acode_region ?_
      refine Or.inl ?_
      refine And.intro (rfl) ?_
      refine Exists.intro _ (And.intro (contains_c _ _ (by omega)) ?_)
      refine acode_ret ?_
      refine ib_eq ?_
      unfold ofB
      rw [if_neg h7, if_neg h9, if_neg h15, if_pos h21]
     ·try simp only [decide_eq_false_iff_not] at h21
      try simp only [Int.toNat_natCast, dflt_sl, dflt_st, dflt_str, dflt_int, dflt_bool] at h21
      refine acode_skip ?_
      refine acode_seq ?_
      refine acode_region ?_
      refine acode_ret ?_
      refine ib_eq ?_
      unfold ofB
      rw [if_neg h7, if_neg h9, if_neg h15, if_neg h21]
theorem matches1_c (t : Term) (f : Fld) (hv : f.2.size ≤ 1000000) : ACall Tryz.prog 128 [.agg (toL rFld f), .one (.addr rTerm t)] (ib (decide (f.1 = t.2.1) && ofB t f.2)) := by
  refine acall_of (rs := [3]) Tryz.func128 rfl rfl rfl teOk rfl ?_
  refine acode_seq ?_
  refine acode_region ?_
  refine acode_seq ?_
  refine acode_region ?_
  refine And.intro (fun h => trivial) ?_
  refine And.intro (fun h => trivial) ?_
  refine And.intro (fun h => ⟨⟨h, trivial⟩, trivial⟩) ?_
  refine Or.inl ?_
  refine And.intro (rfl) ?_
  refine Exists.intro _ (And.intro (fun h => ⟨⟨⟨h, trivial⟩, ⟨h, trivial⟩, trivial⟩, of_c _ _ hv⟩) ?_)
  refine And.intro (by exact fun h => h) ?_
  refine acode_ret ?_
  rfl
def termMatches (t : Term) (l : List Fld) : Bool := !bad t && !decide ((l.any fun f => decide (f.1 = t.2.1) && ofB t f.2) = t.1)
theorem termMatches_c (t : Term) (l : List Fld) (hl : FldsOk l) : ACall Tryz.prog 97 [.agg (toL rTerm t), .one (.sl rFld l)] (ib (termMatches t l)) := by
  refine acall_of (rs := [4]) Tryz.func97 rfl rfl rfl teOk rfl ?_
  refine acode_seq ?_
  refine acode_region ?_
  refine acode_seq ?_
  refine acode_seq ?_
  refine acode_region ?_
  refine And.intro (fun h => trivial) ?_
  refine And.intro (fun h => ⟨⟨h, trivial⟩, trivial⟩) ?_
  refine And.intro (fun h => ⟨⟨h, trivial⟩, trivial⟩) ?_
  refine And.intro (by first | (intro h; rw [h]; rfl) | (intro h; cases h)) ?_
  refine acode_cond rfl (fun h13 => ?_) (fun h13 => ?_)
  ·try simp only [decide_eq_true_eq, Bool.or_eq_true] at h13
   try simp only [Int.toNat_natCast, dflt_sl, dflt_st, dflt_str, dflt_int, dflt_bool] at h13
   refine acode_seq ?_
   refine acode_region ?_
   refine acode_ret ?_
   refine ib_eq ?_
   unfold termMatches bad
   rcases h13 with h | h <;> simp [h]
  ·try simp only [decide_eq_false_iff_not, Bool.or_eq_false_iff, Int.not_lt] at h13
   try simp only [Int.toNat_natCast, dflt_sl, dflt_st, dflt_str, dflt_int, dflt_bool] at h13
   refine acode_skip ?_
   refine acode_seq ?_
   refine acode_region ?_
   refine Or.inl ?_
   refine And.intro (rfl) ?_
   refine Exists.intro _ (And.intro (contains_F 128 rTerm t l (fun f => decide (f.1 = t.2.1) && ofB t f.2) _ rfl (fun x hx => matches1_c t x (hl.2 x hx).2)) ?_)
   refine acode_seq ?_
   refine acode_region ?_
   refine acode_ret ?_
   refine ib_eq ?_
   unfold termMatches bad
   rw [decide_eq_false (show ¬ t.2.2.1 < 1 by omega), decide_eq_false (show ¬ 5 < t.2.2.1 by omega)]
   rfl
theorem index_T (f : FuncId) {β : Type} (S : Rd β) (y : β) (l : List (Term)) (p : Term → Bool) (d : Term) (_hd : (rTerm).dflt = d) (hp : ∀ x ∈ l, ACall Tryz.prog f [.agg (toL rTerm x), .one (.addr S y)] (ib (p x))) : ACall Tryz.prog 131 [.one (.sl rTerm l), .one (.clo f (.addr S y))] (ii .i64 (ixOf p l)) := by
  obtain rfl := _hd
  refine acall_of (rs := [4]) Tryz.func131 rfl rfl rfl teOk rfl ?_
  refine acode_seq ?_
  refine acode_region ?_
  refine acode_seq ?_
  refine acode_seq ?_
  refine acode_region ?_
  intro l1_1
  try simp only [Int.toNat_natCast, dflt_sl, dflt_st, dflt_str, dflt_int, dflt_bool] at l1_1
  refine acode_block ?_
  refine acode_loopP (fun (i : Nat) => i ≤ l.length ∧ (l.take i).any p = false) (fun (i : Nat) => [(0, .one (.sl rTerm l)), (1, .one (.clo f (.addr S y))), (7, ii .i64 l.length), (8, ii .i64 i)]) (fun (i : Nat) => []) 0 (fun (i : Nat) => l.length - i) 0 (⟨Nat.zero_le _, rfl⟩) (le_of ⟨rfl, rfl, rfl, rfl⟩ trivial rfl) ?_
  intro i hI0
  obtain ⟨hi, hn⟩ := hI0
  refine acode_seq ?_
  refine acode_region ?_
  refine acode_seq ?_
  refine acode_cond rfl (fun h9 => ?_) (fun h9 => ?_)
  ·try simp only [decide_eq_true_eq] at h9
   try simp only [Int.toNat_natCast, dflt_sl, dflt_st, dflt_str, dflt_int, dflt_bool] at h9
   refine acode_skip ?_
   refine acode_seq ?_
   refine acode_block ?_
   refine acode_seq ?_
   refine acode_region ?_
   refine acode_seq ?_
   refine acode_region ?_
   refine And.intro (by first | omega | assumption | decide | (simp only [Int.toNat_natCast, dflt_sl, dflt_st, dflt_str, dflt_int, dflt_bool]; omega) | (simp <;> omega)) ?_
   refine Or.inl ?_
   refine And.intro (rfl) ?_
   refine Exists.intro _ (And.intro (hp _ (getD_mem (show i < l.length by omega) _)) ?_)
   refine acode_cond rfl (fun h16 => ?_) (fun h16 => ?_)
   ·try simp only [decide_eq_true_eq, decide_eq_false_iff_not, Bool.and_eq_true, Bool.not_eq_true', Bool.not_eq_false', Bool.or_eq_false_iff, Bool.or_eq_true, Bool.and_eq_false_iff, Int.not_lt, Int.not_le] at h16
    try simp only [Int.toNat_natCast, dflt_st, dflt_str, dflt_int, dflt_bool] at h16
    refine acode_seq ?_
    refine acode_region ?_
    refine acode_ret ?_
    exact ii_eq (ixOf_at (rTerm).dflt (by omega) hn h16).symm
   ·try simp only [decide_eq_true_eq, decide_eq_false_iff_not, Bool.and_eq_true, Bool.not_eq_true', Bool.not_eq_false', Bool.or_eq_false_iff, Bool.or_eq_true, Bool.and_eq_false_iff, Int.not_lt, Int.not_le] at h16
    try simp only [Int.toNat_natCast, dflt_st, dflt_str, dflt_int, dflt_bool] at h16
    refine acode_skip ?_
    refine acode_region ?_
    refine And.intro (by first | omega | assumption | decide | (simp only [Int.toNat_natCast, dflt_sl, dflt_st, dflt_str, dflt_int, dflt_bool]; omega) | (simp <;> omega)) ?_
    exact ⟨i + 1, ⟨by omega, by rw [take_any l p (rTerm).dflt i (by omega), hn]; exact h16⟩, by first | omega | (simp <;> omega), le_of ⟨rfl, rfl, rfl, rfl⟩ trivial rfl⟩
  ·try simp only [decide_eq_false_iff_not, Int.not_lt] at h9
   try simp only [Int.toNat_natCast, dflt_sl, dflt_st, dflt_str, dflt_int, dflt_bool] at h9
   refine acode_exit ?_
   refine acode_seq ?_
   refine acode_region ?_
   refine acode_ret ?_
   have e : i = l.length := by omega
   subst e
   rw [List.take_length] at hn
   exact ii_eq (ixOf_none hn).symm
theorem contains_T (f : FuncId) {β : Type} (S : Rd β) (y : β) (l : List (Term)) (p : Term → Bool) (d : Term) (hd : (rTerm).dflt = d) (hp : ∀ x ∈ l, ACall Tryz.prog f [.agg (toL rTerm x), .one (.addr S y)] (ib (p x))) : ACall Tryz.prog 100 [.one (.sl rTerm l), .one (.clo f (.addr S y))] (ib (l.any p)) := by
  refine acall_of (rs := [4]) Tryz.func100 rfl rfl rfl teOk rfl ?_
  refine acode_seq ?_
  refine acode_region ?_
  refine acode_seq ?_
  refine acode_region ?_
  refine Or.inl ?_
  refine And.intro (rfl) ?_
  refine Exists.intro _ (And.intro (index_T f S y l p d hd hp) ?_)
  refine acode_ret ?_
  exact ib_eq (ixOf_ge p l)
theorem index_R (f g : FuncId) {β : Type} (S : Rd β) (y : β) (l : List (List Term)) (p : (List Term) → Bool) (d : List Term) (_hd : (Rd.sl rTerm).dflt = d) (hp : ∀ x ∈ l, ACall Tryz.prog f [.one (.sl rTerm x), .one (.ref (.clo g (.addr S y)))] (ib (p x))) : ACall Tryz.prog 130 [.one (.sl (.sl rTerm) l), .one (.clo f (.ref (.clo g (.addr S y))))] (ii .i64 (ixOf p l)) := by
  obtain rfl := _hd
  refine acall_of (rs := [4]) Tryz.func130 rfl rfl rfl teOk rfl ?_
  refine acode_seq ?_
  refine acode_region ?_
  refine acode_seq ?_
  refine acode_seq ?_
  refine acode_region ?_
  intro l1_1
  try simp only [Int.toNat_natCast, dflt_sl, dflt_st, dflt_str, dflt_int, dflt_bool] at l1_1
  refine acode_block ?_
  refine acode_loopP (fun (i : Nat) => i ≤ l.length ∧ (l.take i).any p = false) (fun (i : Nat) => [(0, .one (.sl (.sl rTerm) l)), (1, .one (.clo f (.ref (.clo g (.addr S y))))), (7, ii .i64 l.length), (8, ii .i64 i)]) (fun (i : Nat) => []) 0 (fun (i : Nat) => l.length - i) 0 (⟨Nat.zero_le _, rfl⟩) (le_of ⟨rfl, rfl, rfl, rfl⟩ trivial rfl) ?_
  intro i hI0
  obtain ⟨hi, hn⟩ := hI0
  refine acode_seq ?_
  refine acode_region ?_
  refine acode_seq ?_
  refine acode_cond rfl (fun h9 => ?_) (fun h9 => ?_)
  ·try simp only [decide_eq_true_eq] at h9
   try simp only [Int.toNat_natCast, dflt_sl, dflt_st, dflt_str, dflt_int, dflt_bool] at h9
   refine acode_skip ?_
   refine acode_seq ?_
   refine acode_block ?_
   refine acode_seq ?_
   refine acode_region ?_
   refine acode_seq ?_
   refine acode_region ?_
   refine And.intro (by first | omega | assumption | decide | (simp only [Int.toNat_natCast, dflt_sl, dflt_st, dflt_str, dflt_int, dflt_bool]; omega) | (simp <;> omega)) ?_
   refine Or.inl ?_
   refine And.intro (rfl) ?_
   refine Exists.intro _ (And.intro (hp _ (getD_mem (show i < l.length by omega) _)) ?_)
   refine acode_cond rfl (fun h16 => ?_) (fun h16 => ?_)
   ·try simp only [decide_eq_true_eq, decide_eq_false_iff_not, Bool.and_eq_true, Bool.not_eq_true', Bool.not_eq_false', Bool.or_eq_false_iff, Bool.or_eq_true, Bool.and_eq_false_iff, Int.not_lt, Int.not_le] at h16
    try simp only [Int.toNat_natCast, dflt_sl] at h16
    refine acode_seq ?_
    refine acode_region ?_
    refine acode_ret ?_
    exact ii_eq (ixOf_at (Rd.sl rTerm).dflt (by omega) hn h16).symm
   ·try simp only [decide_eq_true_eq, decide_eq_false_iff_not, Bool.and_eq_true, Bool.not_eq_true', Bool.not_eq_false', Bool.or_eq_false_iff, Bool.or_eq_true, Bool.and_eq_false_iff, Int.not_lt, Int.not_le] at h16
    try simp only [Int.toNat_natCast, dflt_sl] at h16
    refine acode_skip ?_
    refine acode_region ?_
    refine And.intro (by first | omega | assumption | decide | (simp only [Int.toNat_natCast, dflt_sl, dflt_st, dflt_str, dflt_int, dflt_bool]; omega) | (simp <;> omega)) ?_
    exact ⟨i + 1, ⟨by omega, by rw [take_any l p (Rd.sl rTerm).dflt i (by omega), hn]; exact h16⟩, by first | omega | (simp <;> omega), le_of ⟨rfl, rfl, rfl, rfl⟩ trivial rfl⟩
  ·try simp only [decide_eq_false_iff_not, Int.not_lt] at h9
   try simp only [Int.toNat_natCast, dflt_sl, dflt_st, dflt_str, dflt_int, dflt_bool] at h9
   refine acode_exit ?_
   refine acode_seq ?_
   refine acode_region ?_
   refine acode_ret ?_
   have e : i = l.length := by omega
   subst e
   rw [List.take_length] at hn
   exact ii_eq (ixOf_none hn).symm
theorem contains_R (f g : FuncId) {β : Type} (S : Rd β) (y : β) (l : List (List Term)) (p : (List Term) → Bool) (d : List Term) (hd : (Rd.sl rTerm).dflt = d) (hp : ∀ x ∈ l, ACall Tryz.prog f [.one (.sl rTerm x), .one (.ref (.clo g (.addr S y)))] (ib (p x))) : ACall Tryz.prog 98 [.one (.sl (.sl rTerm) l), .one (.clo f (.ref (.clo g (.addr S y))))] (ib (l.any p)) := by
  refine acall_of (rs := [4]) Tryz.func98 rfl rfl rfl teOk rfl ?_
  refine acode_seq ?_
  refine acode_region ?_
  refine acode_seq ?_
  refine acode_region ?_
  refine Or.inl ?_
  refine And.intro (rfl) ?_
  refine Exists.intro _ (And.intro (index_R f g S y l p d hd hp) ?_)
  refine acode_ret ?_
  exact ib_eq (ixOf_ge p l)
theorem fails_c (t : Term) (l : List Fld) (hl : FldsOk l) : ACall Tryz.prog 96 [.agg (toL rTerm t), .one (.addr (.sl rFld) l)] (ib (!termMatches t l)) := by
  refine acall_of (rs := [3]) Tryz.func96 rfl rfl rfl teOk rfl ?_
  refine acode_seq ?_
  refine acode_region ?_
  refine acode_seq ?_
  refine acode_region ?_
  refine Or.inl ?_
  refine And.intro (rfl) ?_
  refine Exists.intro _ (And.intro (termMatches_c t l hl) ?_)
  refine acode_ret ?_
  rfl
theorem rowFails_c (r : List Term) (l : List Fld) (hl : FldsOk l) : ACall Tryz.prog 99 [.one (.sl rTerm r), .one (.ref (.clo 96 (.addr (.sl rFld) l)))] (ib (!(r.any fun t => !termMatches t l))) := by
  refine acall_of (rs := [3]) Tryz.func99 rfl rfl rfl teOk rfl ?_
  refine acode_seq ?_
  refine acode_region ?_
  refine acode_seq ?_
  refine acode_region ?_
  refine Or.inl ?_
  refine And.intro (rfl) ?_
  refine Exists.intro _ (And.intro (contains_T _ (.sl rFld) l r (fun t => !termMatches t l) _ rfl (fun x _ => fails_c x l hl)) ?_)
  refine acode_ret ?_
  rfl
def selMatches (s : List (List Term)) (l : List Fld) : Bool := s.any fun r => !(r.any fun t => !termMatches t l)
theorem selMatches_c (s : List (List Term)) (l : List Fld) (hl : FldsOk l) : ACall Tryz.prog 64 [.one (.sl (.sl rTerm) s), .one (.sl rFld l)] (ib (selMatches s l)) := by
  refine acall_of (rs := [4]) Tryz.func64 rfl rfl rfl teOk rfl ?_
  refine acode_seq ?_
  refine acode_region ?_
  refine acode_seq ?_
  refine acode_region ?_
  refine acode_seq ?_
  refine acode_region ?_
  refine Or.inl ?_
  refine And.intro (rfl) ?_
  refine Exists.intro _ (And.intro (contains_R 99 96 (.sl rFld) l s (fun r => !(r.any fun t => !termMatches t l)) _ rfl (fun x _ => rowFails_c x l hl)) ?_)
  refine acode_ret ?_
  rfl
end QQ
end Q
end Ab
end Go.Proofs.YtnimhpgacmojiaaGreatDoor
namespace Go.Proofs.YtnimhpgacmojiaaGreatDoor
open Go.RowKit
namespace Ab
set_option maxRecDepth 100000
namespace Q
namespace QQ
def sgn (c : UInt8) : Bool := decide (0 ≤ Lib.indexByte [63, 61, 94, 126, 60] c)
def signL : List UInt8 → Int → Int
  | [], _ => -1
  | 92 :: r, n => match r with
    | [] => -1
    | _ :: r => signL r (n + 2)
  | c :: r, n => if sgn c then n else signL r (n + 1)
end QQ
end Q
end Ab
end Go.Proofs.YtnimhpgacmojiaaGreatDoor
namespace Go.Proofs.YtnimhpgacmojiaaGreatDoor
open Go.RowKit
namespace Ab
set_option maxRecDepth 100000
namespace Q
namespace QQ
def unc (c : UInt8) : UInt8 := if 0 ≤ Lib.indexByte [92, 115, 110, 98] c then [92, 32, 10, 124].getD (Lib.indexByte [92, 115, 110, 98] c).toNat 0 else c
def unescL : List UInt8 → List UInt8
  | [] => []
  | 92 :: r => match r with
    | [] => [92]
    | c :: r => unc c :: unescL r
  | c :: r => c :: unescL r
def escC (more : List UInt8) (c : UInt8) : List UInt8 :=
  if 0 ≤ Lib.indexByte [92, 32, 10, 124] c then [92, [92, 115, 110, 98].getD (Lib.indexByte [92, 32, 10, 124] c).toNat 0]
  else if 0 ≤ Lib.indexByte more c then [92, c] else [c]
def escL (more l : List UInt8) : List UInt8 := l.flatMap (escC more)
def SG : List UInt8 := [63, 61, 94, 126, 60]
def moreOf (k : Bool) : List UInt8 := if k then [63, 61, 94, 126, 60, 33] else []
def fine (k : Bool) (c : UInt8) : Bool := match escC (moreOf k) c with
  | [x] => decide (x = c) && !decide (x = 92) && !decide (x = 32) && !decide (x = 124) && (!k || (!sgn x && !decide (x = 33)))
  | [a, x] => decide (a = 92) && decide (unc x = c) && !decide (x = 32) && !decide (x = 124)
  | _ => false
abbrev ls (s : ByteArray) : List UInt8 := s.data.toList
def signOf (rel : Int) : UInt8 := SG.getD (rel - 1).toNat 0
def termL (t : Term) : List UInt8 := (if t.1 then [33] else []) ++ escL (moreOf true) (ls t.2.1) ++ signOf t.2.2.1 :: escL (moreOf false) (ls t.2.2.2)
def rowL (r : List Term) : List UInt8 := if r.isEmpty then [97, 108, 108] else Lib.join (r.map termL) [32]
def selL (s : List (List Term)) : List UInt8 := if s.isEmpty then [110, 111, 110, 101] else Lib.join (s.map rowL) [32, 124, 32]
def restOf (w : List UInt8) : List UInt8 := Lib.trimPrefix w [33]
def bytes (l : List UInt8) : ByteArray := ⟨l.toArray⟩
def termP (w : List UInt8) : Option Term :=
  if signL (restOf w) 0 < 0 then none else some (Lib.hasPrefix w [33], bytes (unescL ((restOf w).take (signL (restOf w) 0).toNat)), Lib.indexByte SG ((restOf w).getD (signL (restOf w) 0).toNat 0) + 1, bytes (unescL ((restOf w).drop ((signL (restOf w) 0).toNat + 1))))
def RelOk (t : Term) : Prop := 1 ≤ t.2.2.1 ∧ t.2.2.1 ≤ 5
def Clean (sep p : List UInt8) : Prop := (∀ r j, j < p.length → Lib.occAt (p ++ sep ++ r) sep j = false) ∧ ∀ j, j ≤ p.length → Lib.occAt p sep j = false
def rdAll {α : Type} (f : List UInt8 → Option α) : List (List UInt8) → Option (List α)
  | [] => some []
  | w :: r => match f w, rdAll f r with
    | some t, some l => some (t :: l)
    | _, _ => none
def rowP (l : List UInt8) : Option (List Term) := if l = [97, 108, 108] then some [] else rdAll termP (Lib.split l [32])
def selP (l : List UInt8) : Option (List (List Term)) := if l = [110, 111, 110, 101] then some [] else rdAll rowP (Lib.split l [32, 124, 32])
end QQ
end Q
end Ab
end Go.Proofs.YtnimhpgacmojiaaGreatDoor
namespace Go.Proofs.YtnimhpgacmojiaaGreatDoor
open Go.RowKit
namespace Ab
set_option maxRecDepth 100000
namespace Q
namespace QQ
end QQ
end Q
end Ab
end Go.Proofs.YtnimhpgacmojiaaGreatDoor
namespace Go.Proofs.YtnimhpgacmojiaaGreatDoor
open Go.RowKit
namespace Ab
set_option maxRecDepth 100000
namespace Q
namespace QQ
def tupT (o : Option Term) : A := .tup [(true, toL rTerm (o.getD (false, ByteArray.empty, 0, ByteArray.empty))), (false, [.lit (.bool o.isSome)])]
def tupR (o : Option (List Term)) : A := .tup [(false, [.sl rTerm (o.getD [])]), (false, [.lit (.bool o.isSome)])]
end QQ
end Q
end Ab
end Go.Proofs.YtnimhpgacmojiaaGreatDoor
namespace Go.Proofs.YtnimhpgacmojiaaGreatDoor
open Go.RowKit
namespace Ab
set_option maxRecDepth 100000
namespace Q
namespace QQ
def blankC (c : UInt8) : Bool := decide (c = 32) || decide (c = 9)
def blankL (l : List UInt8) : Bool := decide (1 ≤ l.length) && blankC (l.getD 0 0)
def keyOk (l : List UInt8) : Bool := (((((decide (1 ≤ l.length) && decide (l.length ≤ 32)) && !blankC (l.getD 0 0)) && !decide (l.getD 0 0 = 35)) && !decide (58 ∈ l)) && !decide (10 ∈ l))
end QQ
end Q
end Ab
end Go.Proofs.YtnimhpgacmojiaaGreatDoor
namespace Go.Proofs.YtnimhpgacmojiaaGreatDoor
open Go.RowKit
namespace Ab
set_option maxRecDepth 100000
namespace Q
namespace QQ
def goodT (t : Term) : Bool := (((keyOk t.2.1.data.toList && decide (1 ≤ t.2.2.1)) && decide (t.2.2.1 ≤ 5)) && (!decide (t.2.2.1 = 1) || decide (t.2.2.2 = ⟨#[]⟩)))
def goodR (r : List Term) : Bool := decide (r.length ≤ 20) && r.all goodT
def goodS (s : List (List Term)) : Bool := decide (s.length ≤ 20) && s.all goodR
def TxtOk (t : Term) : Prop := t.2.1.size ≤ 1000000 ∧ t.2.2.2.size ≤ 1000000
def TxtsOk (s : List (List Term)) : Prop := ∀ r ∈ s, ∀ t ∈ r, TxtOk t
end QQ
end Q
end Ab
end Go.Proofs.YtnimhpgacmojiaaGreatDoor
namespace Go.Proofs.YtnimhpgacmojiaaGreatDoor
open Go.RowKit
namespace Ab
set_option maxRecDepth 100000
namespace Q
namespace QQ
def TermsOk (r : List Term) : Prop := r.length ≤ 20 ∧ ∀ t ∈ r, TxtOk t ∧ RelOk t
def errForm : C := .lit (.iface 93 (.int .i64 2))
def printA (s : List (List Term)) : A := if goodS s then .tup [(false, [.lit (.string (bytes (selL s)))]), (false, [.lit .nilIface])] else .tup [(false, [.lit (.string ⟨#[]⟩)]), (false, [errForm])]
end QQ
end Q
end Ab
end Go.Proofs.YtnimhpgacmojiaaGreatDoor
namespace Go.Proofs.YtnimhpgacmojiaaGreatDoor
open Go.RowKit
namespace Ab
set_option maxRecDepth 100000
namespace Q
namespace QQ
def parseL (l : List UInt8) : Option (List (List Term)) := match selP l with
  | some s => if goodS s && decide (selL s = l) then some s else none
  | none => none
def parseA (o : Option (List (List Term))) : A := match o with
  | some s => .tup [(false, [.sl (.sl rTerm) s]), (false, [.lit .nilIface])]
  | none => .tup [(false, [.sl (.sl rTerm) []]), (false, [errForm])]
end QQ
end Q
end Ab
end Go.Proofs.YtnimhpgacmojiaaGreatDoor
namespace Go.Proofs.YtnimhpgacmojiaaGreatDoor
open Go.RowKit
namespace Ab
set_option maxRecDepth 100000
namespace Q
namespace QQ
def signC (c : UInt8) : Bool := ((((decide (c = 33) || decide (c = 63)) || decide (c = 61)) || decide (c = 94)) || decide (c = 126)) || decide (c = 60)
def escX (k : Bool) (c : UInt8) : List UInt8 := if c = 92 then [92, 92] else if c = 32 then [92, 115] else if c = 10 then [92, 110] else if c = 124 then [92, 98] else if (k && signC c) = true then [92, c] else [c]
def rowTo (r : List Term) (k : Nat) : List UInt8 := if r.isEmpty then [97, 108, 108] else Lib.join ((r.map termL).take k) [32]
def selTo (s : List (List Term)) (i : Nat) : List UInt8 := Lib.join ((s.map rowL).take i) [32, 124, 32]
end QQ
end Q
end Ab
end Go.Proofs.YtnimhpgacmojiaaGreatDoor
namespace Go.Proofs.YtnimhpgacmojiaaGreatDoor
open Go.RowKit
namespace Ab
set_option maxRecDepth 100000
namespace Q
namespace QQ
def readL : List UInt8 → Option (List UInt8)
  | [] => some []
  | 92 :: r => match r with
    | [] => none
    | c :: r => (readL r).map (unc c :: ·)
  | c :: r => (readL r).map (c :: ·)
def wordV (w : List UInt8) : Term × Bool :=
  if signL (restOf w) 0 < 0 then (((false, ByteArray.empty, 0, ByteArray.empty) : Term), false) else
    ((Lib.hasPrefix w [33], bytes ((readL ((restOf w).take (signL (restOf w) 0).toNat)).getD []), Lib.indexByte SG ((restOf w).getD (signL (restOf w) 0).toNat 0) + 1, bytes ((readL ((restOf w).drop ((signL (restOf w) 0).toNat + 1))).getD [])),
     (readL ((restOf w).take (signL (restOf w) 0).toNat)).isSome && (readL ((restOf w).drop ((signL (restOf w) 0).toNat + 1))).isSome)
def stepW (s : List (List Term)) (w : List UInt8) : Option (List (List Term)) :=
  if w = [124] then some (s ++ [[]]) else if w = [97, 108, 108] then some s else if (wordV w).2 then some (s.set (s.length - 1) (s.getD (s.length - 1) [] ++ [(wordV w).1])) else none
def runP (s : List (List Term)) (w : List UInt8) : List UInt8 → Option (List (List Term))
  | [] => stepW s w
  | c :: r => if c = 32 then (match stepW s w with | some s' => runP s' [] r | none => none) else runP s (w ++ [c]) r
def refParse (l : List UInt8) : Option (List (List Term)) := if l = [110, 111, 110, 101] then some [] else match runP [[]] [] l with
  | some s => if goodS s && decide (selL s = l) then some s else none
  | none => none
def foldT (s : List (List Term)) : List (List UInt8) → Option (List (List Term))
  | [] => some s
  | w :: r => match stepW s w with
    | some s' => foldT s' r
    | none => none
def tokR (r : List Term) : List (List UInt8) := if r.isEmpty then [[97, 108, 108]] else r.map termL
def toks : List (List Term) → List (List UInt8)
  | [] => []
  | r :: s => match s with
    | [] => tokR r
    | _ :: _ => tokR r ++ [124] :: toks s
end QQ
end Q
end Ab
end Go.Proofs.YtnimhpgacmojiaaGreatDoor
namespace Go.Proofs.YtnimhpgacmojiaaGreatDoor
open Go.RowKit
namespace Ab
set_option maxRecDepth 100000
namespace Q
namespace QQ
def readA (o : Option (List UInt8)) : A := .tup [(false, [.lit (.string (bytes (o.getD [])))]), (false, [.lit (.bool o.isSome)])]
def uncX (c : UInt8) : UInt8 := if c = 115 then 32 else if c = 110 then 10 else if c = 98 then 124 else c
def wordA (v : Term × Bool) : A := .tup [(true, toL rTerm v.1), (false, [.lit (.bool v.2)])]
end QQ
end Q
end Ab
end Go.Proofs.YtnimhpgacmojiaaGreatDoor
namespace Go.Proofs.YtnimhpgacmojiaaGreatDoor
open Go.RowKit
namespace Ab
set_option maxRecDepth 100000
namespace Q
namespace QQ
def refParseA (o : Option (List (List Term))) : A := .tup [(false, [.sl (.sl rTerm) (o.getD [])]), (false, [.lit (.bool o.isSome)])]
structure PInv (l : List UInt8) (i : Nat) (s : List (List Term)) (w : List UInt8) : Prop where
  b0 : i ≤ l.length + 1
  s1 : 1 ≤ s.length
  s2 : s.length ≤ i + 1
  wl : w.length ≤ i
  rl : ∀ r ∈ s, r.length ≤ i
  tx : TxtsOk s
  run : i ≤ l.length → runP [[]] [] l = runP s w (l.drop i)
  fin : i = l.length + 1 → runP [[]] [] l = some s
end QQ
end Q
end Ab
end Go.Proofs.YtnimhpgacmojiaaGreatDoor
namespace Go.Proofs.YtnimhpgacmojiaaGreatDoor
open Go.RowKit
namespace Ab
set_option maxRecDepth 100000
namespace Q
namespace QQ
def bsOf (l : List UInt8) : ByteArray := bytes l
def aliveS : List (List Term) := [[(false, ⟨#[65]⟩, 2, ⟨#[120]⟩), (true, ⟨#[66]⟩, 1, ⟨#[]⟩)], [(false, ⟨#[67]⟩, 4, ⟨#[121]⟩)]]
end QQ
end Q
end Ab
end Go.Proofs.YtnimhpgacmojiaaGreatDoor
namespace Go.Proofs.YtnimhpgacmojiaaGreatDoor
open Go.RowKit
namespace Ab
set_option maxRecDepth 100000
namespace Q
def idsL (p : List Fld → Bool) (l : List Stz) : List Int := (l.filter fun x => p x.2).map (·.1)
end Q
end Ab
end Go.Proofs.YtnimhpgacmojiaaGreatDoor
namespace Go.Proofs.YtnimhpgacmojiaaGreatDoor
open Go.RowKit
namespace Ab
set_option maxRecDepth 100000
namespace Q
abbrev rSel : Rd (List (List Term)) := .sl (.sl rTerm)
abbrev Crs := List (List Term) × List Stz × Int
abbrev rCur : Rd Crs := .st rSel (.st (.sl rStz) (.int .i64))
def crsO (s : List (List Term)) (ks : List Stz) (p : Int) : Obs := [(0, .box 114 [.sl (.sl rTerm) s, .sl rStz ks, .lit (.int .i64 p)])]
theorem cloneT_c {k : Nat} (l : List Term) (hl : l.length ≤ 1000000) : ACall Tryz.prog 91 [.one (.slk k rTerm l)] (.one (.sl rTerm l)) := by
  refine acall_of (rs := [2]) Tryz.func91 rfl rfl rfl teOk rfl ?_
  refine acode_seq ?_
  refine acode_region ?_
  refine acode_seq ?_
  refine acode_seq ?_
  refine acode_isnil (q := k) [_] _ (R := rTerm) (xs := l) rfl rfl rfl rfl (e := 102) rfl rfl ?_
  refine ⟨rfl, fun b hb => ?_⟩
  refine acode_cond rfl (fun h4 => ?_) (fun h4 => ?_)
  ·have hl0 := hb h4
   subst hl0
   refine acode_seq ?_
   refine acode_region ?_
   refine acode_nilvec 2 102 rTerm rfl ?_
   refine acode_ret ?_
   rfl
  ·refine acode_skip ?_
   refine acode_seq ?_
   refine acode_region ?_
   refine And.intro (by first | exact app_le (show l.length ≤ 1000000000 by omega) (by decide) | exact app_le (show 0 + l.length ≤ 1000000000 by omega) (by decide)) ?_
   refine acode_ret ?_
   rfl
theorem copiedS_c {κ : Nat} (s : List (List Term)) (hl : s.length ≤ 1000000) (hf : ∀ r ∈ s, r.length ≤ 1000000) : ACall Tryz.prog 61 [.one (.slk κ (.sl rTerm) s)] (.one (.sl (.sl rTerm) s)) := by
  refine acall_of (rs := [2]) Tryz.func61 rfl rfl rfl teOk rfl ?_
  refine acode_seq ?_
  refine acode_region ?_
  refine acode_seq ?_
  refine acode_region ?_
  refine acode_seq ?_
  refine acode_seq ?_
  refine acode_nilvec 3 100 (.sl rTerm) rfl ?_
  refine acode_region ?_
  intro l2_1
  try simp only [Int.toNat_natCast, dflt_sl, dflt_st, dflt_str, dflt_int, dflt_bool] at l2_1
  refine acode_block ?_
  refine acode_loopP (fun (i : Nat) => i ≤ s.length) (fun (i : Nat) => [(3, .one (.vec 0)), (6, .one (.slk κ (.sl rTerm) s)), (7, ii .i64 s.length), (8, ii .i64 i)]) (fun (i : Nat) => [(0, .vec 100 (.sl rTerm) (s.take i))]) 1 (fun (i : Nat) => s.length - i) 0 (Nat.zero_le _) (le_of ⟨rfl, rfl, rfl, rfl⟩ rfl rfl) ?_
  intro i hI0
  refine acode_seq ?_
  refine acode_region ?_
  refine acode_seq ?_
  refine acode_cond rfl (fun h9 => ?_) (fun h9 => ?_)
  ·try simp only [decide_eq_true_eq] at h9
   try simp only [Int.toNat_natCast, dflt_sl, dflt_st, dflt_str, dflt_int, dflt_bool] at h9
   have hil : i < s.length := (by omega)
   refine acode_skip ?_
   refine acode_seq ?_
   refine acode_block ?_
   refine acode_seq ?_
   refine acode_region ?_
   refine And.intro (by first | omega | assumption | decide | (simp only [Int.toNat_natCast, dflt_sl, dflt_st, dflt_str, dflt_int, dflt_bool]; omega) | (simp <;> omega)) ?_
   refine acode_region ?_
   refine Or.inl ?_
   refine And.intro (rfl) ?_
   refine Exists.intro _ (And.intro (cloneT_c (s.getD i ([] : List Term)) (hf _ (getD_mem hil ([] : List Term)))) ?_)
   refine And.intro (by exact app_le (show (s.take i).length + 1 ≤ 1000000000 by rw [List.length_take]; omega) (by decide)) ?_
   refine acode_region ?_
   refine And.intro (by first | omega | assumption | decide | (simp only [Int.toNat_natCast, dflt_sl, dflt_st, dflt_str, dflt_int, dflt_bool]; omega) | (simp <;> omega)) ?_
   exact ⟨i + 1, by omega, by first | omega | (simp <;> omega), le_of ⟨rfl, rfl, rfl, (ii_eq (by omega))⟩ (vec_eq (take_snoc ([] : List Term) hil)) rfl⟩
  ·try simp only [decide_eq_false_iff_not, Int.not_lt] at h9
   try simp only [Int.toNat_natCast, dflt_sl, dflt_st, dflt_str, dflt_int, dflt_bool] at h9
   refine acode_exit ?_
   refine acode_seq ?_
   refine acode_region ?_
   refine acode_ret ?_
   rw [List.take_of_length_le (by omega)]
   exact rfl
theorem stanzasL_o {k : Nat} (es : List Ent) (n m : Int) (hl : es.length ≤ 1000000) (hf : ∀ e ∈ es, e.1.2.2.length ≤ 1000000) : ACallO Tryz.prog 42 [.one (.adk k (rLst k) (es, n, m))] [] 0 (.one (.vec 1)) [(1, .vec 27 rStz (stzL es))] 2 := by
  have hll := live_len es
  refine acallo_of (rs := [2]) Tryz.func42 rfl rfl rfl teOk (by decide) rfl ?_
  refine acode_seq ?_
  refine acode_region ?_
  refine acode_seq ?_
  refine acode_region ?_
  refine acode_seq ?_
  refine acode_seq ?_
  refine acode_region ?_
  refine Or.inl ?_
  refine And.intro (rfl) ?_
  refine Exists.intro _ (And.intro (all_c (es, n, m)) ?_)
  refine acode_block ?_
  refine acode_nilcell 0 0 27 rStz rfl rfl rfl ?_
  refine acode_range (caps := [.one (.ref (.adk k (rLst k) (es, n, m)))]) (xs := itEs es) [(3, .one (.own 0 0)), (6, .one (.clo 103 (.ref (.adk k (rLst k) (es, n, m)))))] 2 (fun st j (i : Nat) => st = false ∧ i = j) (fun i => [(0, .box 36 [.vec 1]), (1, .vec 27 rStz (stT es i))]) (fun _ => .ret) 0 rfl rfl (all_iter es n m) (le_of ⟨rfl, rfl⟩ ⟨rfl, rfl⟩ rfl) ⟨rfl, rfl⟩ (fun j hj => by simp [itEs]) rfl rfl rfl (fun _ _ _ => rfl) rfl ?_ ?_ ?_
  ·intro j i hk hp
   obtain ⟨_, rfl⟩ := hp
   obtain ⟨e, he, hg, hi, hx⟩ := itEs_get es hk
   rw [hx]
   have hsn := stT_snoc hi
   rw [hg] at hsn
   have hsl := @stT_len es i
   refine acode_region ?_
   refine acode_block ?_
   refine acode_ord rfl ?_
   refine aord_light 1 rfl rfl rfl (by kernel_rfl) ?_
   refine aord_light 3 rfl rfl rfl (by kernel_rfl) ?_
   refine aord_light 4 rfl rfl rfl (by kernel_rfl) ?_
   refine aord_all [0, 2, 5] (by kernel_rfl) rfl ?_
   refine And.intro ?_ ?_
   ·refine aord_all [2, 5] (by kernel_rfl) rfl ?_
    refine And.intro ?_ ?_
    ·refine aord_all [5] (by kernel_rfl) rfl ?_
     refine aord_all [6] (by kernel_rfl) rfl ?_
     refine Or.inl ?_
     refine And.intro (rfl) ?_
     refine Exists.intro _ (And.intro (clone_c e.1.2.2 (hf e he)) ?_)
     refine aord_all [7] (by kernel_rfl) rfl ?_
     refine aord_all [8] (by kernel_rfl) rfl ?_
     refine aord_all [9] (by kernel_rfl) rfl ?_
     refine And.intro (by exact app_le (show (stT es i).length + 1 ≤ 1000000000 by omega) (by decide)) ?_
     refine aord_all [10] (by kernel_rfl) rfl ?_
     refine aord_done (by kernel_rfl) ?_
     exact ⟨i + 1, ⟨rfl, rfl⟩, le_of trivial ⟨rfl, vec_eq (by rw [hsn]; exact rfl)⟩ rfl⟩
    ·refine aord_all [2, 6] (by kernel_rfl) rfl ?_
     refine And.intro ?_ ?_
     ·refine aord_all [6] (by kernel_rfl) rfl ?_
      refine Or.inl ?_
      refine And.intro (rfl) ?_
      refine Exists.intro _ (And.intro (clone_c e.1.2.2 (hf e he)) ?_)
      refine aord_all [7] (by kernel_rfl) rfl ?_
      refine aord_all [8] (by kernel_rfl) rfl ?_
      refine aord_all [9] (by kernel_rfl) rfl ?_
      refine And.intro (by exact app_le (show (stT es i).length + 1 ≤ 1000000000 by omega) (by decide)) ?_
      refine aord_all [10] (by kernel_rfl) rfl ?_
      refine aord_done (by kernel_rfl) ?_
      exact ⟨i + 1, ⟨rfl, rfl⟩, le_of trivial ⟨rfl, vec_eq (by rw [hsn]; exact rfl)⟩ rfl⟩
     ·refine Or.inl ?_
      refine And.intro (rfl) ?_
      refine Exists.intro _ (And.intro (clone_c e.1.2.2 (hf e he)) ?_)
      refine aord_all [2] (by kernel_rfl) rfl ?_
      refine aord_all [7] (by kernel_rfl) rfl ?_
      refine aord_all [8] (by kernel_rfl) rfl ?_
      refine aord_all [9] (by kernel_rfl) rfl ?_
      refine And.intro (by exact app_le (show (stT es i).length + 1 ≤ 1000000000 by omega) (by decide)) ?_
      refine aord_all [10] (by kernel_rfl) rfl ?_
      refine aord_done (by kernel_rfl) ?_
      exact ⟨i + 1, ⟨rfl, rfl⟩, le_of trivial ⟨rfl, vec_eq (by rw [hsn]; exact rfl)⟩ rfl⟩
   refine And.intro ?_ ?_
   ·refine aord_all [0, 5] (by kernel_rfl) rfl ?_
    refine And.intro ?_ ?_
    ·refine aord_all [5] (by kernel_rfl) rfl ?_
     refine aord_all [6] (by kernel_rfl) rfl ?_
     refine Or.inl ?_
     refine And.intro (rfl) ?_
     refine Exists.intro _ (And.intro (clone_c e.1.2.2 (hf e he)) ?_)
     refine aord_all [7] (by kernel_rfl) rfl ?_
     refine aord_all [8] (by kernel_rfl) rfl ?_
     refine aord_all [9] (by kernel_rfl) rfl ?_
     refine And.intro (by exact app_le (show (stT es i).length + 1 ≤ 1000000000 by omega) (by decide)) ?_
     refine aord_all [10] (by kernel_rfl) rfl ?_
     refine aord_done (by kernel_rfl) ?_
     exact ⟨i + 1, ⟨rfl, rfl⟩, le_of trivial ⟨rfl, vec_eq (by rw [hsn]; exact rfl)⟩ rfl⟩
    ·refine aord_all [0, 6] (by kernel_rfl) rfl ?_
     refine And.intro ?_ ?_
     ·refine aord_all [6] (by kernel_rfl) rfl ?_
      refine Or.inl ?_
      refine And.intro (rfl) ?_
      refine Exists.intro _ (And.intro (clone_c e.1.2.2 (hf e he)) ?_)
      refine aord_all [7] (by kernel_rfl) rfl ?_
      refine aord_all [8] (by kernel_rfl) rfl ?_
      refine aord_all [9] (by kernel_rfl) rfl ?_
      refine And.intro (by exact app_le (show (stT es i).length + 1 ≤ 1000000000 by omega) (by decide)) ?_
      refine aord_all [10] (by kernel_rfl) rfl ?_
      refine aord_done (by kernel_rfl) ?_
      exact ⟨i + 1, ⟨rfl, rfl⟩, le_of trivial ⟨rfl, vec_eq (by rw [hsn]; exact rfl)⟩ rfl⟩
     ·refine Or.inl ?_
      refine And.intro (rfl) ?_
      refine Exists.intro _ (And.intro (clone_c e.1.2.2 (hf e he)) ?_)
      refine aord_all [0, 7] (by kernel_rfl) rfl ?_
      refine And.intro ?_ ?_
      ·refine aord_all [7] (by kernel_rfl) rfl ?_
       refine aord_all [8] (by kernel_rfl) rfl ?_
       refine aord_all [9] (by kernel_rfl) rfl ?_
       refine And.intro (by exact app_le (show (stT es i).length + 1 ≤ 1000000000 by omega) (by decide)) ?_
       refine aord_all [10] (by kernel_rfl) rfl ?_
       refine aord_done (by kernel_rfl) ?_
       exact ⟨i + 1, ⟨rfl, rfl⟩, le_of trivial ⟨rfl, vec_eq (by rw [hsn]; exact rfl)⟩ rfl⟩
      ·refine aord_all [0, 8] (by kernel_rfl) rfl ?_
       refine And.intro ?_ ?_
       ·refine aord_all [8] (by kernel_rfl) rfl ?_
        refine aord_all [9] (by kernel_rfl) rfl ?_
        refine And.intro (by exact app_le (show (stT es i).length + 1 ≤ 1000000000 by omega) (by decide)) ?_
        refine aord_all [10] (by kernel_rfl) rfl ?_
        refine aord_done (by kernel_rfl) ?_
        exact ⟨i + 1, ⟨rfl, rfl⟩, le_of trivial ⟨rfl, vec_eq (by rw [hsn]; exact rfl)⟩ rfl⟩
       ·refine aord_all [0] (by kernel_rfl) rfl ?_
        refine aord_all [9] (by kernel_rfl) rfl ?_
        refine And.intro (by exact app_le (show (stT es i).length + 1 ≤ 1000000000 by omega) (by decide)) ?_
        refine aord_all [10] (by kernel_rfl) rfl ?_
        refine aord_done (by kernel_rfl) ?_
        exact ⟨i + 1, ⟨rfl, rfl⟩, le_of trivial ⟨rfl, vec_eq (by rw [hsn]; exact rfl)⟩ rfl⟩
   ·refine aord_all [0, 2, 6] (by kernel_rfl) rfl ?_
    refine And.intro ?_ ?_
    ·refine aord_all [2, 6] (by kernel_rfl) rfl ?_
     refine And.intro ?_ ?_
     ·refine aord_all [6] (by kernel_rfl) rfl ?_
      refine Or.inl ?_
      refine And.intro (rfl) ?_
      refine Exists.intro _ (And.intro (clone_c e.1.2.2 (hf e he)) ?_)
      refine aord_all [7] (by kernel_rfl) rfl ?_
      refine aord_all [8] (by kernel_rfl) rfl ?_
      refine aord_all [9] (by kernel_rfl) rfl ?_
      refine And.intro (by exact app_le (show (stT es i).length + 1 ≤ 1000000000 by omega) (by decide)) ?_
      refine aord_all [10] (by kernel_rfl) rfl ?_
      refine aord_done (by kernel_rfl) ?_
      exact ⟨i + 1, ⟨rfl, rfl⟩, le_of trivial ⟨rfl, vec_eq (by rw [hsn]; exact rfl)⟩ rfl⟩
     ·refine Or.inl ?_
      refine And.intro (rfl) ?_
      refine Exists.intro _ (And.intro (clone_c e.1.2.2 (hf e he)) ?_)
      refine aord_all [2] (by kernel_rfl) rfl ?_
      refine aord_all [7] (by kernel_rfl) rfl ?_
      refine aord_all [8] (by kernel_rfl) rfl ?_
      refine aord_all [9] (by kernel_rfl) rfl ?_
      refine And.intro (by exact app_le (show (stT es i).length + 1 ≤ 1000000000 by omega) (by decide)) ?_
      refine aord_all [10] (by kernel_rfl) rfl ?_
      refine aord_done (by kernel_rfl) ?_
      exact ⟨i + 1, ⟨rfl, rfl⟩, le_of trivial ⟨rfl, vec_eq (by rw [hsn]; exact rfl)⟩ rfl⟩
    refine And.intro ?_ ?_
    ·refine aord_all [0, 6] (by kernel_rfl) rfl ?_
     refine And.intro ?_ ?_
     ·refine aord_all [6] (by kernel_rfl) rfl ?_
      refine Or.inl ?_
      refine And.intro (rfl) ?_
      refine Exists.intro _ (And.intro (clone_c e.1.2.2 (hf e he)) ?_)
      refine aord_all [7] (by kernel_rfl) rfl ?_
      refine aord_all [8] (by kernel_rfl) rfl ?_
      refine aord_all [9] (by kernel_rfl) rfl ?_
      refine And.intro (by exact app_le (show (stT es i).length + 1 ≤ 1000000000 by omega) (by decide)) ?_
      refine aord_all [10] (by kernel_rfl) rfl ?_
      refine aord_done (by kernel_rfl) ?_
      exact ⟨i + 1, ⟨rfl, rfl⟩, le_of trivial ⟨rfl, vec_eq (by rw [hsn]; exact rfl)⟩ rfl⟩
     ·refine Or.inl ?_
      refine And.intro (rfl) ?_
      refine Exists.intro _ (And.intro (clone_c e.1.2.2 (hf e he)) ?_)
      refine aord_all [0, 7] (by kernel_rfl) rfl ?_
      refine And.intro ?_ ?_
      ·refine aord_all [7] (by kernel_rfl) rfl ?_
       refine aord_all [8] (by kernel_rfl) rfl ?_
       refine aord_all [9] (by kernel_rfl) rfl ?_
       refine And.intro (by exact app_le (show (stT es i).length + 1 ≤ 1000000000 by omega) (by decide)) ?_
       refine aord_all [10] (by kernel_rfl) rfl ?_
       refine aord_done (by kernel_rfl) ?_
       exact ⟨i + 1, ⟨rfl, rfl⟩, le_of trivial ⟨rfl, vec_eq (by rw [hsn]; exact rfl)⟩ rfl⟩
      ·refine aord_all [0, 8] (by kernel_rfl) rfl ?_
       refine And.intro ?_ ?_
       ·refine aord_all [8] (by kernel_rfl) rfl ?_
        refine aord_all [9] (by kernel_rfl) rfl ?_
        refine And.intro (by exact app_le (show (stT es i).length + 1 ≤ 1000000000 by omega) (by decide)) ?_
        refine aord_all [10] (by kernel_rfl) rfl ?_
        refine aord_done (by kernel_rfl) ?_
        exact ⟨i + 1, ⟨rfl, rfl⟩, le_of trivial ⟨rfl, vec_eq (by rw [hsn]; exact rfl)⟩ rfl⟩
       ·refine aord_all [0] (by kernel_rfl) rfl ?_
        refine aord_all [9] (by kernel_rfl) rfl ?_
        refine And.intro (by exact app_le (show (stT es i).length + 1 ≤ 1000000000 by omega) (by decide)) ?_
        refine aord_all [10] (by kernel_rfl) rfl ?_
        refine aord_done (by kernel_rfl) ?_
        exact ⟨i + 1, ⟨rfl, rfl⟩, le_of trivial ⟨rfl, vec_eq (by rw [hsn]; exact rfl)⟩ rfl⟩
    ·refine Or.inl ?_
     refine And.intro (rfl) ?_
     refine Exists.intro _ (And.intro (clone_c e.1.2.2 (hf e he)) ?_)
     refine aord_all [0, 2] (by kernel_rfl) rfl ?_
     refine And.intro ?_ ?_
     ·refine aord_all [2] (by kernel_rfl) rfl ?_
      refine aord_all [7] (by kernel_rfl) rfl ?_
      refine aord_all [8] (by kernel_rfl) rfl ?_
      refine aord_all [9] (by kernel_rfl) rfl ?_
      refine And.intro (by exact app_le (show (stT es i).length + 1 ≤ 1000000000 by omega) (by decide)) ?_
      refine aord_all [10] (by kernel_rfl) rfl ?_
      refine aord_done (by kernel_rfl) ?_
      exact ⟨i + 1, ⟨rfl, rfl⟩, le_of trivial ⟨rfl, vec_eq (by rw [hsn]; exact rfl)⟩ rfl⟩
     ·refine aord_all [0, 7] (by kernel_rfl) rfl ?_
      refine And.intro ?_ ?_
      ·refine aord_all [7] (by kernel_rfl) rfl ?_
       refine aord_all [8] (by kernel_rfl) rfl ?_
       refine aord_all [9] (by kernel_rfl) rfl ?_
       refine And.intro (by exact app_le (show (stT es i).length + 1 ≤ 1000000000 by omega) (by decide)) ?_
       refine aord_all [10] (by kernel_rfl) rfl ?_
       refine aord_done (by kernel_rfl) ?_
       exact ⟨i + 1, ⟨rfl, rfl⟩, le_of trivial ⟨rfl, vec_eq (by rw [hsn]; exact rfl)⟩ rfl⟩
      ·refine aord_all [0, 8] (by kernel_rfl) rfl ?_
       refine And.intro ?_ ?_
       ·refine aord_all [8] (by kernel_rfl) rfl ?_
        refine aord_all [9] (by kernel_rfl) rfl ?_
        refine And.intro (by exact app_le (show (stT es i).length + 1 ≤ 1000000000 by omega) (by decide)) ?_
        refine aord_all [10] (by kernel_rfl) rfl ?_
        refine aord_done (by kernel_rfl) ?_
        exact ⟨i + 1, ⟨rfl, rfl⟩, le_of trivial ⟨rfl, vec_eq (by rw [hsn]; exact rfl)⟩ rfl⟩
       ·refine aord_all [0] (by kernel_rfl) rfl ?_
        refine aord_all [9] (by kernel_rfl) rfl ?_
        refine And.intro (by exact app_le (show (stT es i).length + 1 ≤ 1000000000 by omega) (by decide)) ?_
        refine aord_all [10] (by kernel_rfl) rfl ?_
        refine aord_done (by kernel_rfl) ?_
        exact ⟨i + 1, ⟨rfl, rfl⟩, le_of trivial ⟨rfl, vec_eq (by rw [hsn]; exact rfl)⟩ rfl⟩
  ·intro i hp
   obtain ⟨_, rfl⟩ := hp
   refine acode_seq ?_
   refine acode_region ?_
   refine acode_ret ?_
   rw [show stT es (itEs es).length = stzL es from by unfold stT stzL; rw [itEs_len, List.take_length]]
   exact ⟨rfl, rfl, rfl⟩
  ·intro j i hp
   exact absurd hp.1 (by decide)
def missS (s : List (List Term)) (x : Stz) : Bool := !(QQ.selMatches s x.2)
theorem found1_c {κ : Nat} (s : List (List Term)) (x : Stz) (hx : FldsOk x.2) : ACall Tryz.prog 90 [.agg (toL rStz x), .one (.adk κ rSel s)] (ib (missS s x)) := by
  refine acall_of (rs := [3]) Tryz.func90 rfl rfl rfl teOk rfl ?_
  refine acode_seq ?_
  refine acode_region ?_
  refine acode_seq ?_
  refine acode_region ?_
  refine Or.inl ?_
  refine And.intro (rfl) ?_
  refine Exists.intro _ (And.intro (QQ.selMatches_c s x.2 hx) ?_)
  refine acode_ret ?_
  rfl
def fndS (s : List (List Term)) (es : List Ent) : List Stz := keepF (missS s) (stzL es)
theorem stz_flds {es : List Ent} (h : ∀ e ∈ es, FldsOk e.1.2.2) : ∀ x ∈ stzL es, FldsOk x.2 := by
  intro x hx
  obtain ⟨e, he, rfl⟩ := List.mem_map.1 hx
  exact h e (List.mem_filter.1 he).1
theorem found_c {k : Nat} (s : List (List Term)) (es : List Ent) (n m : Int) (hl : es.length ≤ 1000000) (hf : ∀ e ∈ es, FldsOk e.1.2.2) : ACall Tryz.prog 59 [.one (.adk k (rLst k) (es, n, m)), .one (.sl (.sl rTerm) s)] (.one (.sl rStz (fndS s es))) := by
  have hsl := stzL_le es
  have hst := stz_flds hf
  have hso := stanzasL_o (k := k) es n m hl (fun e he => Nat.le_trans (hf e he).1 (by decide))
  have hdl := (deleteS_o 90 (κ := 1) rSel s (stzL es) (missS s) (fun x hx => found1_c s x (hst x hx)) (by omega)).x
  refine acall_of (rs := [4]) Tryz.func59 rfl rfl rfl teOk rfl ?_
  refine acode_seq ?_
  refine acode_region ?_
  refine acode_seq ?_
  refine acode_region ?_
  refine Or.inr (Or.inl (Exists.intro [] (Exists.intro [] (Exists.intro _ (Exists.intro _ (Exists.intro _ (Exists.intro _ (Exists.intro _ (And.intro (hso) (And.intro rfl (And.intro True.intro (And.intro rfl ?_))))))))))))
  refine Or.inr (Or.inr (Or.inr (Exists.intro [2] (Exists.intro [] (Exists.intro _ (Exists.intro _ (Exists.intro _ (Exists.intro _ (Exists.intro _ (And.intro (hdl) (And.intro rfl (And.intro (And.intro (And.intro rfl rfl) True.intro) (And.intro rfl ?_)))))))))))))
  refine acode_ret ?_
  rfl
theorem new_o {k κ : Nat} (s : List (List Term)) (es : List Ent) (n m : Int) (hl : es.length ≤ 1000000) (hf : ∀ e ∈ es, FldsOk e.1.2.2) (hs : s.length ≤ 1000000) (hsr : ∀ r ∈ s, r.length ≤ 1000000) : ACallO Tryz.prog 16 [.one (.adk k (rLst k) (es, n, m)), .one (.slk κ (.sl rTerm) s)] [] 0 (.one (.own 0 0)) (crsO s (fndS s es) 0) 1 := by
  refine acallo_of (rs := [4]) Tryz.func16 rfl rfl rfl teOk (by decide) rfl ?_
  refine acode_seq ?_
  refine acode_region ?_
  refine acode_seq ?_
  refine acode_region ?_
  refine Or.inl ?_
  refine And.intro (rfl) ?_
  refine Exists.intro _ (And.intro (copiedS_c s hs hsr) ?_)
  refine acode_seq ?_
  refine acode_region ?_
  refine Or.inl ?_
  refine And.intro (rfl) ?_
  refine Exists.intro _ (And.intro (found_c s es n m hl hf) ?_)
  refine acode_ret ?_
  exact ⟨rfl, rfl, rfl⟩
theorem curLen_c {k : Nat} (s : List (List Term)) (ks : List Stz) (p : Int) : ACall Tryz.prog 20 [.one (.adk k rCur (s, ks, p))] (ii .i64 ks.length) := by
  refine acall_of (rs := [2]) Tryz.func20 rfl rfl rfl teOk rfl ?_
  refine acode_seq ?_
  refine acode_region ?_
  refine acode_seq ?_
  refine acode_seq ?_
  refine acode_region ?_
  refine acode_cond rfl (fun h4 => ?_) (fun h4 => ?_)
  ·try simp only [decide_eq_true_eq, decide_eq_false_iff_not, Bool.and_eq_true, Bool.not_eq_true', Bool.not_eq_false', Bool.or_eq_false_iff, Bool.or_eq_true, Bool.and_eq_false_iff, Int.not_lt, Int.not_le] at h4
   try simp only [Int.toNat_natCast, dflt_sl, dflt_st, dflt_str, dflt_int, dflt_bool] at h4
   simp at h4
  ·skip
   refine acode_skip ?_
   refine acode_seq ?_
   refine acode_region ?_
   intro l3_4
   refine acode_ret ?_
   rfl
theorem curPlace_c {k : Nat} (s : List (List Term)) (ks : List Stz) (p : Int) : ACall Tryz.prog 19 [.one (.adk k rCur (s, ks, p))] (ii .i64 p) := by
  refine acall_of (rs := [2]) Tryz.func19 rfl rfl rfl teOk rfl ?_
  refine acode_seq ?_
  refine acode_region ?_
  refine acode_seq ?_
  refine acode_seq ?_
  refine acode_region ?_
  refine acode_cond rfl (fun h4 => ?_) (fun h4 => ?_)
  ·try simp only [decide_eq_true_eq, decide_eq_false_iff_not, Bool.and_eq_true, Bool.not_eq_true', Bool.not_eq_false', Bool.or_eq_false_iff, Bool.or_eq_true, Bool.and_eq_false_iff, Int.not_lt, Int.not_le] at h4
   try simp only [Int.toNat_natCast, dflt_sl, dflt_st, dflt_str, dflt_int, dflt_bool] at h4
   simp at h4
  ·skip
   refine acode_skip ?_
   refine acode_seq ?_
   refine acode_region ?_
   refine acode_ret ?_
   rfl
def skipR (p len n : Int) : Int := if 0 - p < (if len - p < n then len - p else n) then (if len - p < n then len - p else n) else 0 - p
theorem skip_o (s : List (List Term)) (ks : List Stz) (p n r : Int) (hr : skipR p ks.length n = r) (hp : 0 ≤ p ∧ p ≤ ks.length) (hl : ks.length ≤ 1000000) (hn : -9223372036854775808 ≤ n ∧ n ≤ 9223372036854775807) : ACallO Tryz.prog 17 [.one (.own 0 0), ii .i64 n] (crsO s ks p) 1 (ii .i64 r) (crsO s ks (p + r)) 1 := by
  subst hr
  refine acallo_of (rs := [4]) Tryz.func17 rfl rfl rfl teOk (by decide) rfl ?_
  refine acode_seq ?_
  refine acode_region ?_
  refine acode_seq ?_
  refine acode_seq ?_
  refine acode_region ?_
  refine acode_cond rfl (fun h6 => ?_) (fun h6 => ?_)
  ·try simp only [decide_eq_true_eq, decide_eq_false_iff_not, Bool.and_eq_true, Bool.not_eq_true', Bool.not_eq_false', Bool.or_eq_false_iff, Bool.or_eq_true, Bool.and_eq_false_iff, Int.not_lt, Int.not_le] at h6
   try simp only [Int.toNat_natCast, dflt_sl, dflt_st, dflt_str, dflt_int, dflt_bool] at h6
   simp at h6
  ·skip
   refine acode_skip ?_
   refine acode_seq ?_
   refine acode_draw rfl (by kernel_rfl) ?_
   refine And.intro (by first | omega | assumption | decide | (simp only [Int.toNat_natCast, dflt_sl, dflt_st, dflt_str, dflt_int, dflt_bool]; omega) | (simp <;> omega)) ?_
   refine And.intro (by first | omega | assumption | decide | (simp only [Int.toNat_natCast, dflt_sl, dflt_st, dflt_str, dflt_int, dflt_bool]; omega) | (simp <;> omega)) ?_
   have hb : -1000000 ≤ skipR p ks.length n ∧ skipR p ks.length n ≤ 1000000 := (by unfold skipR; split <;> split <;> omega)
   refine acode_seq ?_
   refine acode_region ?_
   refine And.intro (by first | omega | assumption | decide | (simp only [Int.toNat_natCast, dflt_sl, dflt_st, dflt_str, dflt_int, dflt_bool]; omega) | (simp <;> omega)) ?_
   refine acode_seq ?_
   refine acode_region ?_
   refine acode_ret ?_
   exact ⟨rfl, rfl, rfl⟩
theorem curAt_c {k : Nat} (s : List (List Term)) (ks : List Stz) (p : Int) (i : Nat) (hi : i < ks.length) (hf : ∀ x ∈ ks, FldsOk x.2) : ACall Tryz.prog 60 [.one (.adk k rCur (s, ks, p)), ii .i64 i] (.agg (toL rStz (ks.getD i ((0 : Int), ([] : List Fld))))) := by
  have hfi := (hf _ (getD_mem hi ((0 : Int), ([] : List Fld)))).1
  refine acall_ofc (rs := [.cell 4 27]) Tryz.func60 rfl rfl rfl teOk rfl ?_
  refine acode_seq ?_
  refine acode_region ?_
  refine acode_seq ?_
  refine acode_region ?_
  refine And.intro (by first | omega | assumption | decide | (simp only []; omega) | (simp <;> omega)) ?_
  refine acode_seq ?_
  refine acode_region ?_
  refine Or.inl ?_
  refine And.intro (rfl) ?_
  refine Exists.intro _ (And.intro (clone_c (ks.getD i ((0 : Int), ([] : List Fld))).2 (by omega)) ?_)
  refine acode_seq ?_
  refine acode_region ?_
  refine acode_ret ?_
  exact rfl
theorem next_yes (s : List (List Term)) (ks : List Stz) (p : Nat) (hp : p < ks.length) (hl : ks.length ≤ 1000000) (hf : ∀ x ∈ ks, FldsOk x.2) : ACallO Tryz.prog 14 [.one (.own 0 0)] (crsO s ks p) 1 (.tup [(true, toL rStz (ks.getD p ((0 : Int), ([] : List Fld)))), (false, [.lit (.bool true)])]) (crsO s ks ((p : Int) + 1)) 1 := by
  have hsk := skip_o s ks p 1 1 (by unfold skipR; split <;> split <;> omega) (by omega) hl (by omega)
  have hat := curAt_c (k := 1) s ks ((p : Int) + 1) p hp hf
  refine acallo_ofc (t := 2) (ty := 27) (u := 3) Tryz.func14 rfl rfl rfl teOk rfl rfl ?_
  refine acode_seq ?_
  refine acode_region ?_
  refine acode_seq ?_
  refine acode_seq ?_
  refine acode_region ?_
  refine Or.inr (Or.inl (Exists.intro [] (Exists.intro [0] (Exists.intro _ (Exists.intro _ (Exists.intro _ (Exists.intro _ (Exists.intro _ (And.intro (hsk) (And.intro rfl (And.intro (And.intro (And.intro rfl rfl) True.intro) (And.intro rfl ?_))))))))))))
  refine acode_cond rfl (fun h6 => ?_) (fun h6 => ?_)
  ·try simp only [decide_eq_true_eq] at h6
   try simp only [Int.toNat_natCast, dflt_sl, dflt_st, dflt_str, dflt_int, dflt_bool] at h6
   simp at h6
  ·try simp only [decide_eq_false_iff_not] at h6
   try simp only [Int.toNat_natCast, dflt_sl, dflt_st, dflt_str, dflt_int, dflt_bool] at h6
   refine acode_skip ?_
   refine acode_seq ?_
   refine acode_region ?_
   refine And.intro (by first | omega | assumption | decide | (simp only [Int.toNat_natCast, dflt_sl, dflt_st, dflt_str, dflt_int, dflt_bool]; omega) | (simp <;> omega)) ?_
   refine Or.inr (Or.inr (Or.inl ?_))
   refine And.intro rfl ?_
   refine Exists.intro _ (And.intro ((by rw [show (p : Int) + 1 - 1 = (p : Int) by omega]; exact hat)) ?_)
   refine acode_ret ?_
   exact ⟨rfl, rfl, rfl⟩
theorem next_no (s : List (List Term)) (ks : List Stz) (hl : ks.length ≤ 1000000) : ACallO Tryz.prog 14 [.one (.own 0 0)] (crsO s ks (ks.length : Int)) 1 (.tup [(true, [.lit (.int .i64 0), .lit (.slice none 0 0)]), (false, [.lit (.bool false)])]) (crsO s ks ((ks.length : Int) + 0)) 1 := by
  have hsk := skip_o s ks ks.length 1 0 (by unfold skipR; split <;> split <;> omega) (by omega) hl (by omega)
  refine acallo_ofc (t := 2) (ty := 27) (u := 3) Tryz.func14 rfl rfl rfl teOk rfl rfl ?_
  refine acode_seq ?_
  refine acode_region ?_
  refine acode_seq ?_
  refine acode_seq ?_
  refine acode_region ?_
  refine Or.inr (Or.inl (Exists.intro [] (Exists.intro [0] (Exists.intro _ (Exists.intro _ (Exists.intro _ (Exists.intro _ (Exists.intro _ (And.intro (hsk) (And.intro rfl (And.intro (And.intro (And.intro rfl rfl) True.intro) (And.intro rfl ?_))))))))))))
  refine acode_cond rfl (fun h6 => ?_) (fun h6 => ?_)
  ·try simp only [decide_eq_true_eq] at h6
   try simp only [Int.toNat_natCast, dflt_sl, dflt_st, dflt_str, dflt_int, dflt_bool] at h6
   refine acode_seq ?_
   refine acode_region ?_
   refine acode_ret ?_
   exact ⟨rfl, rfl, rfl⟩
  ·try simp only [decide_eq_false_iff_not] at h6
   try simp only [Int.toNat_natCast, dflt_sl, dflt_st, dflt_str, dflt_int, dflt_bool] at h6
   simp at h6
def isId (id : Int) (x : Stz) : Bool := decide (x.1 = id)
theorem index1_c {κ : Nat} (id : Int) (x : Stz) : ACall Tryz.prog 93 [.agg (toL rStz x), .one (.adk κ (.int .i64) id)] (ib (isId id x)) := by
  refine acall_of (rs := [3]) Tryz.func93 rfl rfl rfl teOk rfl ?_
  refine acode_seq ?_
  refine acode_region ?_
  refine acode_seq ?_
  refine acode_region ?_
  refine acode_ret ?_
  rfl
theorem curIndex_c {k : Nat} (s : List (List Term)) (ks : List Stz) (p id : Int) : ACall Tryz.prog 62 [.one (.adk k rCur (s, ks, p)), ii .i64 id] (ii .i64 (ixOf (isId id) ks)) := by
  refine acall_of (rs := [4]) Tryz.func62 rfl rfl rfl teOk rfl ?_
  refine acode_seq ?_
  refine acode_region ?_
  refine acode_seq ?_
  refine acode_region ?_
  refine Or.inl ?_
  refine And.intro (rfl) ?_
  refine Exists.intro _ (And.intro (indexS_c _ (κ := 0) (.int .i64) id ks (isId id) (fun x _ => index1_c id x)) ?_)
  refine acode_ret ?_
  rfl
theorem seek_no (s : List (List Term)) (ks : List Stz) (p id : Int) (h : ixOf (isId id) ks < 0) : ACallO Tryz.prog 18 [.one (.own 0 0), ii .i64 id] (crsO s ks p) 1 (ib false) (crsO s ks p) 1 := by
  refine acallo_of (rs := [4]) Tryz.func18 rfl rfl rfl teOk (by decide) rfl ?_
  refine acode_seq ?_
  refine acode_region ?_
  refine acode_seq ?_
  refine acode_seq ?_
  refine acode_region ?_
  refine acode_cond rfl (fun h7 => ?_) (fun h7 => ?_)
  ·try simp only [decide_eq_true_eq, decide_eq_false_iff_not, Bool.and_eq_true, Bool.not_eq_true', Bool.not_eq_false', Bool.or_eq_false_iff, Bool.or_eq_true, Bool.and_eq_false_iff, Int.not_lt, Int.not_le] at h7
   try simp only [Int.toNat_natCast, dflt_sl, dflt_st, dflt_str, dflt_int, dflt_bool] at h7
   simp at h7
  ·skip
   refine acode_skip ?_
   refine acode_seq ?_
   refine acode_region ?_
   refine Or.inr (Or.inr (Or.inl ?_))
   refine And.intro rfl ?_
   refine Exists.intro _ (And.intro (curIndex_c (k := 1) s ks p id) ?_)
   refine acode_seq ?_
   refine acode_seq ?_
   refine acode_region ?_
   refine acode_cond rfl (fun h12 => ?_) (fun h12 => ?_)
   ·try simp only [decide_eq_true_eq] at h12
    try simp only [Int.toNat_natCast, dflt_sl, dflt_st, dflt_str, dflt_int, dflt_bool] at h12
    refine acode_seq ?_
    refine acode_region ?_
    refine acode_ret ?_
    exact ⟨rfl, rfl, rfl⟩
   ·try simp only [decide_eq_false_iff_not, Int.not_lt] at h12
    try simp only [Int.toNat_natCast, dflt_sl, dflt_st, dflt_str, dflt_int, dflt_bool] at h12
    omega
theorem seek_yes (s : List (List Term)) (ks : List Stz) (p id q : Int) (h : ixOf (isId id) ks = q) (hq : 0 ≤ q) : ACallO Tryz.prog 18 [.one (.own 0 0), ii .i64 id] (crsO s ks p) 1 (ib true) (crsO s ks q) 1 := by
  subst h
  refine acallo_of (rs := [4]) Tryz.func18 rfl rfl rfl teOk (by decide) rfl ?_
  refine acode_seq ?_
  refine acode_region ?_
  refine acode_seq ?_
  refine acode_seq ?_
  refine acode_region ?_
  refine acode_cond rfl (fun h7 => ?_) (fun h7 => ?_)
  ·try simp only [decide_eq_true_eq, decide_eq_false_iff_not, Bool.and_eq_true, Bool.not_eq_true', Bool.not_eq_false', Bool.or_eq_false_iff, Bool.or_eq_true, Bool.and_eq_false_iff, Int.not_lt, Int.not_le] at h7
   try simp only [Int.toNat_natCast, dflt_sl, dflt_st, dflt_str, dflt_int, dflt_bool] at h7
   simp at h7
  ·skip
   refine acode_skip ?_
   refine acode_seq ?_
   refine acode_region ?_
   refine Or.inr (Or.inr (Or.inl ?_))
   refine And.intro rfl ?_
   refine Exists.intro _ (And.intro (curIndex_c (k := 1) s ks p id) ?_)
   refine acode_seq ?_
   refine acode_seq ?_
   refine acode_region ?_
   refine acode_cond rfl (fun h12 => ?_) (fun h12 => ?_)
   ·try simp only [decide_eq_true_eq] at h12
    try simp only [Int.toNat_natCast, dflt_sl, dflt_st, dflt_str, dflt_int, dflt_bool] at h12
    omega
   ·try simp only [decide_eq_false_iff_not, Int.not_lt] at h12
    try simp only [Int.toNat_natCast, dflt_sl, dflt_st, dflt_str, dflt_int, dflt_bool] at h12
    refine acode_skip ?_
    refine acode_seq ?_
    refine acode_region ?_
    refine acode_seq ?_
    refine acode_region ?_
    refine acode_ret ?_
    exact ⟨rfl, rfl, rfl⟩
def movP (ks : List Stz) : List Stz → Int
  | [] => ks.length
  | x :: r => if ixOf (isId x.1) ks < 0 then movP ks r else ixOf (isId x.1) ks
theorem movP_skip (ks : List Stz) : ∀ (l : List Stz) (i : Nat), i ≤ l.length → (∀ x ∈ l.take i, ixOf (isId x.1) ks < 0) → movP ks l = movP ks (l.drop i)
  | _, 0, _, _ => rfl
  | [], i + 1, h, _ => by simp at h
  | x :: r, i + 1, h, hx => by
    have h0 := hx x (by simp)
    show (if ixOf (isId x.1) ks < 0 then movP ks r else _) = movP ks (r.drop i)
    rw [if_pos h0]
    exact movP_skip ks r i (by simpa using h) (fun y hy => hx y (by simp [hy]))
theorem movP_hit (ks l : List Stz) (i : Nat) (hi : i < l.length) (h : ∀ x ∈ l.take i, ixOf (isId x.1) ks < 0) (hx : ¬ ixOf (isId (l.getD i ((0 : Int), ([] : List Fld))).1) ks < 0) : movP ks l = ixOf (isId (l.getD i ((0 : Int), ([] : List Fld))).1) ks := by
  rw [movP_skip ks l i (by omega) h, List.drop_eq_getElem_cons hi, getD_get hi ((0 : Int), ([] : List Fld))]
  show (if _ < 0 then _ else _) = _
  rw [if_neg hx]
theorem move_o {k : Nat} (s : List (List Term)) (ks : List Stz) (p : Nat) (hp : p ≤ ks.length) (es : List Ent) (n m : Int) (hl : es.length ≤ 1000000) (hf : ∀ e ∈ es, FldsOk e.1.2.2) (hk : ks.length ≤ 1000000) : ACallO Tryz.prog 13 [.one (.own 0 0), .one (.adk k (rLst k) (es, n, m))] (crsO s ks p) 1 (.tup []) (crsO s (fndS s es) (movP (fndS s es) (ks.drop p))) 1 := by
  have hfd := found_c (k := k) s es n m hl hf
  refine acallo_of (rs := []) Tryz.func13 rfl rfl rfl teOk (by decide) rfl ?_
  refine acode_seq ?_
  refine acode_seq ?_
  refine acode_region ?_
  refine acode_cond rfl (fun h8 => ?_) (fun h8 => ?_)
  ·try simp only [decide_eq_true_eq, decide_eq_false_iff_not, Bool.and_eq_true, Bool.not_eq_true', Bool.not_eq_false', Bool.or_eq_false_iff, Bool.or_eq_true, Bool.and_eq_false_iff, Int.not_lt, Int.not_le] at h8
   try simp only [Int.toNat_natCast, dflt_sl, dflt_st, dflt_str, dflt_int, dflt_bool] at h8
   simp at h8
  ·skip
   refine acode_skip ?_
   refine acode_seq ?_
   refine acode_draw rfl (by kernel_rfl) ?_
   refine And.intro (by first | omega | assumption | decide | (simp only [Int.toNat_natCast, dflt_sl, dflt_st, dflt_str, dflt_int, dflt_bool]; omega) | (simp <;> omega)) ?_
   refine acode_seq ?_
   refine acode_region ?_
   refine Or.inl ?_
   refine And.intro (rfl) ?_
   refine Exists.intro _ (And.intro (hfd) ?_)
   refine acode_seq ?_
   refine acode_region ?_
   intro l3_5
   try simp only [Int.toNat_natCast, dflt_sl, dflt_st, dflt_str, dflt_int, dflt_bool] at l3_5
   refine acode_seq ?_
   refine acode_region ?_
   intro l4_1
   try simp only [Int.toNat_natCast] at l4_1
   refine acode_block ?_
   refine acode_loopP (fun (i : Nat) => i ≤ (ks.drop p).length ∧ ∀ x ∈ (ks.drop p).take i, ixOf (isId x.1) (fndS s es) < 0) (fun (i : Nat) => [(0, .one (.own 0 0)), (35, .one (.sl rStz (ks.drop p))), (36, ii .i64 (ks.drop p).length), (37, ii .i64 i)]) (fun (i : Nat) => [(0, .box 114 [.sl (.sl rTerm) s, .sl rStz (fndS s es), .lit (.int .i64 (fndS s es).length)])]) 1 (fun (i : Nat) => (ks.drop p).length - i) 0 (⟨Nat.zero_le _, by simp⟩) (le_of ⟨rfl, rfl, rfl, rfl⟩ rfl rfl) ?_
   intro i hI0
   obtain ⟨hi, hall⟩ := hI0
   refine acode_seq ?_
   refine acode_region ?_
   refine acode_seq ?_
   refine acode_cond rfl (fun h38 => ?_) (fun h38 => ?_)
   ·try simp only [decide_eq_true_eq] at h38
    try simp only [Int.toNat_natCast, dflt_sl, dflt_st, dflt_str, dflt_int, dflt_bool] at h38
    have hil : i < (ks.drop p).length := (by omega)
    have hts := take_snoc ((0 : Int), ([] : List Fld)) hil
    refine acode_skip ?_
    refine acode_seq ?_
    refine acode_block ?_
    refine acode_seq ?_
    refine acode_region ?_
    refine And.intro (by first | omega | assumption | decide | (simp only [Int.toNat_natCast, dflt_sl, dflt_st, dflt_str, dflt_int, dflt_bool]; omega) | (simp <;> omega)) ?_
    refine acode_seq ?_
    rcases Int.lt_or_le (ixOf (isId ((ks.drop p).getD i ((0 : Int), ([] : List Fld))).1) (fndS s es)) 0 with hx | hx
    ·refine acode_region ?_
     refine Or.inr (Or.inl (Exists.intro [] (Exists.intro [0] (Exists.intro _ (Exists.intro _ (Exists.intro _ (Exists.intro _ (Exists.intro _ (And.intro (seek_no s (fndS s es) (fndS s es).length ((ks.drop p).getD i ((0 : Int), ([] : List Fld))).1 hx) (And.intro rfl (And.intro (And.intro (And.intro rfl rfl) True.intro) (And.intro rfl ?_))))))))))))
     refine acode_cond rfl (fun h44 => ?_) (fun h44 => ?_)
     ·try simp only [decide_eq_true_eq, decide_eq_false_iff_not, Bool.and_eq_true, Bool.not_eq_true', Bool.not_eq_false', Bool.or_eq_false_iff, Bool.or_eq_true, Bool.and_eq_false_iff, Int.not_lt, Int.not_le] at h44
      try simp only [Int.toNat_natCast, dflt_sl, dflt_st, dflt_str, dflt_int, dflt_bool] at h44
      simp at h44
     ·skip
      refine acode_skip ?_
      refine acode_region ?_
      refine And.intro (by first | omega | assumption | decide | (simp only [Int.toNat_natCast, dflt_sl, dflt_st, dflt_str, dflt_int, dflt_bool]; omega) | (simp <;> omega)) ?_
      exact ⟨i + 1, ⟨by omega, by rw [← hts]; intro x hx2; rcases List.mem_append.1 hx2 with h|h; exact hall x h; rw [List.mem_singleton.1 h]; exact hx⟩, by first | omega | (simp <;> omega), le_of ⟨rfl, rfl, rfl, (ii_eq (by omega))⟩ rfl rfl⟩
    ·refine acode_region ?_
     refine Or.inr (Or.inl (Exists.intro [] (Exists.intro [0] (Exists.intro _ (Exists.intro _ (Exists.intro _ (Exists.intro _ (Exists.intro _ (And.intro (seek_yes s (fndS s es) (fndS s es).length ((ks.drop p).getD i ((0 : Int), ([] : List Fld))).1 _ rfl hx) (And.intro rfl (And.intro (And.intro (And.intro rfl rfl) True.intro) (And.intro rfl ?_))))))))))))
     refine acode_cond rfl (fun h44 => ?_) (fun h44 => ?_)
     ·skip
      skip
      refine acode_ret ?_
      rw [movP_hit _ _ i hil hall (by omega)]
      exact ⟨rfl, rfl, rfl⟩
     ·try simp only [decide_eq_true_eq, decide_eq_false_iff_not, Bool.and_eq_true, Bool.not_eq_true', Bool.not_eq_false', Bool.or_eq_false_iff, Bool.or_eq_true, Bool.and_eq_false_iff, Int.not_lt, Int.not_le] at h44
      try simp only [Int.toNat_natCast, dflt_sl, dflt_st, dflt_str, dflt_int, dflt_bool] at h44
      simp at h44
   ·try simp only [decide_eq_false_iff_not, Int.not_lt] at h38
    try simp only [Int.toNat_natCast, dflt_sl, dflt_st, dflt_str, dflt_int, dflt_bool] at h38
    refine acode_exit ?_
    rw [movP_skip _ _ i hi hall, show (ks.drop p).drop i = [] from List.drop_of_length_le (by omega)]
    exact ⟨rfl, rfl, rfl⟩
end Q
end Ab
end Go.Proofs.YtnimhpgacmojiaaGreatDoor
namespace Go.Proofs.YtnimhpgacmojiaaGreatDoor
open Go.RowKit
namespace Ab
set_option maxRecDepth 100000
namespace Q
theorem numI_mem : ∀ (l : List Itm) (n : Int) (e : Ent), e ∈ numI n l → e.1 ∈ l
  | [], _, _, h => by cases h
  | x :: r, n, e, h => by
    unfold numI at h
    split at h
    · rcases List.mem_cons.1 h with h | h
      · rw [h]; exact List.mem_cons_self
      · exact List.mem_cons_of_mem _ (numI_mem r _ e h)
    · rcases List.mem_cons.1 h with h | h
      · rw [h]; exact List.mem_cons_self
      · exact List.mem_cons_of_mem _ (numI_mem r _ e h)
theorem num_small {s : ByteArray} {l : List Itm} (hp : parseS s = .inr l) : ∀ e ∈ numI 1 l, SmallF e.1.2.2 ∧ e.1.2.2.length ≤ 40 := fun e he => items_small hp _ (numI_mem l 1 e he)
end Q
end Ab
end Go.Proofs.YtnimhpgacmojiaaGreatDoor
namespace Go.Proofs.YtnimhpgacmojiaaGreatDoor
open Go.RowKit
namespace Ab
set_option maxRecDepth 100000
namespace Q
def oldB (first : Int) (T : List Bool) (e : Ent) : Bool := decide (0 < e.2) && (decide (e.2 < first) && !(T.getD e.2.toNat false))
def touch (first : Int) (T : List Bool) (e : Edt) : List Bool := if ((e.1 = 1 ∨ e.1 = 2) ∧ 0 < e.2.1) ∧ e.2.1 < first then T.set e.2.1.toNat true else T
theorem touch_len (first : Int) (T : List Bool) (e : Edt) : (touch first T e).length = T.length := by
  unfold touch
  split
  · exact List.length_set
  · rfl
theorem set_true {T : List Bool} {i j : Nat} (h : T.getD j false = true) : (T.set i true).getD j false = true := by
  rw [List.getD_eq_getElem?_getD, List.getElem?_set]
  split
  · rename_i e
    subst e
    split
    · rfl
    · rename_i hn
      rw [List.getD_eq_getElem?_getD, List.getElem?_eq_none (by omega)] at h
      cases h
  · rwa [← List.getD_eq_getElem?_getD]
theorem touch_old {first : Int} {T : List Bool} {e : Edt} {x : Ent} (h : oldB first (touch first T e) x = true) : oldB first T x = true := by
  unfold oldB at *
  simp only [Bool.and_eq_true, Bool.not_eq_true'] at *
  refine ⟨h.1, h.2.1, ?_⟩
  cases e2 : T.getD x.2.toNat false with
  | false => rfl
  | true =>
    have h3 := h.2.2
    unfold touch at h3
    split at h3
    · rw [set_true e2] at h3; cases h3
    · rw [e2] at h3; cases h3
theorem set_self {T : List Bool} {i : Nat} (h : i < T.length) : (T.set i true).getD i false = true := by
  rw [List.getD_eq_getElem?_getD, List.getElem?_set_self h]; rfl
theorem touch_not {first : Int} {T : List Bool} {e : Edt} (hT : T.length = first.toNat) (hk : e.1 = 1 ∨ e.1 = 2) {x : Ent} (hx : x.2 = e.2.1) : oldB first (touch first T e) x = false := by
  unfold oldB
  by_cases h0 : 0 < x.2
  · by_cases h1 : x.2 < first
    · have : touch first T e = T.set e.2.1.toNat true := if_pos ⟨⟨hk, by omega⟩, by omega⟩
      rw [this, ← hx, set_self (by omega)]
      simp
    · simp [h1]
  · simp [h0]
theorem filter_sub {α : Type} {p q : α → Bool} (h : ∀ x, q x = true → p x = true) {a b : List α} (he : a.filter p = b.filter p) : a.filter q = b.filter q := by
  have e : ∀ l : List α, l.filter q = (l.filter p).filter q := fun l => by
    rw [List.filter_filter]
    refine List.filter_congr fun x _ => ?_
    cases hq : q x with
    | false => rfl
    | true => rw [h x hq]; rfl
  rw [e a, e b, he]
theorem filter_repl {p : Ent → Bool} {es : List Ent} {i : Nat} {x : Itm} (h : i < es.length) (h1 : p (es.getD i (((0 : Int), ByteArray.empty, ([] : List Fld)), (0 : Int))) = false) (h2 : p (x, (es.getD i (((0 : Int), ByteArray.empty, ([] : List Fld)), (0 : Int))).2) = false) : (replE es i x).filter p = es.filter p := by
  have e1 : replE es i x = es.take i ++ (x, (es.getD i (((0 : Int), ByteArray.empty, ([] : List Fld)), (0 : Int))).2) :: es.drop (i + 1) := List.set_eq_take_append_cons_drop .. |>.trans (if_pos h)
  have e2 := congrArg (fun l => l.filter p) (del_split h)
  simp only [List.filter_append, List.filter_cons, h1] at e2
  rw [e1, List.filter_append, List.filter_cons, h2]
  exact e2.symm
theorem filter_del {p : Ent → Bool} {es : List Ent} {i : Nat} (h : i < es.length) (h1 : p (es.getD i (((0 : Int), ByteArray.empty, ([] : List Fld)), (0 : Int))) = false) : (delE es i).filter p = es.filter p := by
  have e2 := congrArg (fun l => l.filter p) (del_split h)
  simp only [List.filter_append, List.filter_cons, h1] at e2
  unfold delE
  rw [List.filter_append]
  exact e2.symm
theorem filter_ins {p : Ent → Bool} {es : List Ent} {i : Nat} {x : Ent} (h1 : p x = false) : (insE es i x).filter p = es.filter p := by
  unfold insE
  rw [List.filter_append, List.filter_cons, h1]
  conv => rhs; rw [← List.take_append_drop i es, List.filter_append]
  rfl
structure VI (L0 L : Lst) (T : List Bool) : Prop where
  len : T.length = L0.2.1.toNat
  old : L.1.filter (oldB L0.2.1 T) = L0.1.filter (oldB L0.2.1 T)
  nx : L0.2.1 ≤ L.2.1
theorem VI.step {L0 L : Lst} {T : List Bool} {e : Edt} (h : VI L0 L T) : VI L0 (doL L e) (touch L0.2.1 T e) := by
  have h1 : L.1.filter (oldB L0.2.1 (touch L0.2.1 T e)) = L0.1.filter (oldB L0.2.1 (touch L0.2.1 T e)) := filter_sub (fun x hx => touch_old hx) h.old
  have hl : (touch L0.2.1 T e).length = L0.2.1.toNat := (touch_len _ _ _).trans h.len
  have hat : ∀ id, ¬ atE L.1 id < 0 → ∃ i : Nat, i < L.1.length ∧ atE L.1 id = i ∧ (L.1.getD i (((0 : Int), ByteArray.empty, ([] : List Fld)), (0 : Int))).2 = id := fun id hn => by
    rcases at_cases L.1 id with ⟨h1, _⟩ | ⟨i, h1, h2, h3, h4, _⟩
    · omega
    · exact ⟨i, h1, h2, h4⟩
  unfold doL
  split
  · rename_i hk
    split
    · exact ⟨hl, h1, h.nx⟩
    · rename_i hn
      obtain ⟨i, hi, he, hid⟩ := hat _ hn
      rw [he, Int.toNat_natCast]
      split
      · exact ⟨hl, h1, h.nx⟩
      · exact ⟨hl, (filter_repl (x := itmOf e.2.2) hi (touch_not h.len (.inl hk) hid) (touch_not (x := (itmOf e.2.2, (L.1.getD i (((0 : Int), ByteArray.empty, ([] : List Fld)), (0 : Int))).2)) h.len (.inl hk) hid)).trans h1, h.nx⟩
  · split
    · rename_i hk
      split
      · exact ⟨hl, h1, h.nx⟩
      · rename_i hn
        obtain ⟨i, hi, he, hid⟩ := hat _ hn
        rw [he, Int.toNat_natCast]
        exact ⟨hl, (filter_del hi (touch_not h.len (.inr hk) hid)).trans h1, h.nx⟩
    · have hnx := h.nx
      split
      · exact ⟨hl, h1, h.nx⟩
      · split
        · exact ⟨hl, h1, h.nx⟩
        · split
          · exact ⟨hl, h1, h.nx⟩
          · refine ⟨hl, (filter_ins ?_).trans h1, by show L0.2.1 ≤ L.2.1 + 1; omega⟩
            unfold oldB
            rw [decide_eq_false (show ¬ (itmOf e.2.2, L.2.1).2 < L0.2.1 by simp only; omega)]
            simp
theorem ids_sorted (l : List Itm) : (ofT l).1.Pairwise (fun x y => 0 < x.2 → 0 < y.2 → x.2 < y.2) := by
  obtain ⟨h1, _⟩ := ids_num l 1 (Int.le_refl _)
  have h2 : (nmsL (ofT l).1).Pairwise (· < ·) := by
    rw [show nmsL (ofT l).1 = _ from h1]
    refine List.Pairwise.map _ ?_ List.pairwise_lt_range
    intro a b hab
    omega
  unfold nmsL at h2
  rw [List.pairwise_filter, List.pairwise_map] at h2
  refine h2.imp fun {x y} h hx hy => h (decide_eq_true hx) (decide_eq_true hy)
theorem VI.mono {l : List Itm} {M : Lst} {T : List Bool} (h : VI (ofT l) M T) {p q : Nat} (hp : p < M.1.length) (hq : q < M.1.length) (h1 : oldB (ofT l).2.1 T (M.1.getD p (((0 : Int), ByteArray.empty, ([] : List Fld)), (0 : Int))) = true) (h2 : oldB (ofT l).2.1 T (M.1.getD q (((0 : Int), ByteArray.empty, ([] : List Fld)), (0 : Int))) = true) (hlt : (M.1.getD p (((0 : Int), ByteArray.empty, ([] : List Fld)), (0 : Int))).2 < (M.1.getD q (((0 : Int), ByteArray.empty, ([] : List Fld)), (0 : Int))).2) : p < q := by
  have h3 : ((ofT l).1.filter (oldB (ofT l).2.1 T)).Pairwise (fun x y => x.2 < y.2) := by
    rw [List.pairwise_filter]
    refine (ids_sorted l).imp fun {x y} h hx hy => h ?_ ?_
    · unfold oldB at hx
      simp only [Bool.and_eq_true, decide_eq_true_eq] at hx
      exact hx.1
    · unfold oldB at hy
      simp only [Bool.and_eq_true, decide_eq_true_eq] at hy
      exact hy.1
  rw [← h.old, List.pairwise_filter] at h3
  rw [← getD_get hp (((0 : Int), ByteArray.empty, ([] : List Fld)), (0 : Int))] at h1 hlt
  rw [← getD_get hq (((0 : Int), ByteArray.empty, ([] : List Fld)), (0 : Int))] at h2 hlt
  rcases Nat.lt_trichotomy p q with e | e | e
  · exact e
  · subst e; omega
  · have := List.pairwise_iff_getElem.1 h3 q p hq hp e h2 h1
    omega
def rawsO (es : List Ent) : List ByteArray := es.map (·.1.2.1)
structure AtI (l : List Itm) (M : Lst) (T : List Bool) (at_ id : Nat) : Prop where
  le : at_ ≤ M.1.length
  one : 1 ≤ id
  top : (id : Int) ≤ (ofT l).2.1
  ahead : ∀ (p : Nat), p < M.1.length → oldB (ofT l).2.1 T (M.1.getD p (((0 : Int), ByteArray.empty, ([] : List Fld)), (0 : Int))) = true → (id : Int) ≤ (M.1.getD p (((0 : Int), ByteArray.empty, ([] : List Fld)), (0 : Int))).2 → at_ ≤ p
end Q
end Ab
end Go.Proofs.YtnimhpgacmojiaaGreatDoor
namespace Go.Proofs.YtnimhpgacmojiaaGreatDoor
open Go.RowKit
namespace Ab
set_option maxRecDepth 100000
namespace Q
open QQ in
theorem program9_c (s : List (List Term)) (hs : QQ.SelOk s) : ACall Tryz.prog 24 [.one (.sl (.sl rTerm) s)] (.one (.sl (.sl rTerm) s)) := by
  refine acall_of (rs := [2]) Tryz.func24 rfl rfl rfl teOk rfl ?_
  refine acode_seq ?_
  refine acode_region ?_
  refine acode_seq ?_
  refine acode_region ?_
  refine acode_seq ?_
  refine acode_seq ?_
  refine acode_region ?_
  intro l2_1
  try simp only [Int.toNat_natCast, dflt_sl, dflt_st, dflt_str, dflt_int, dflt_bool] at l2_1
  refine acode_block ?_
  refine acode_loopP (fun (i : Nat) => i ≤ s.length) (fun (i : Nat) => [(3, .one (.vec 0)), (10, .one (.sl (.sl rTerm) s)), (11, ii .i64 s.length), (12, ii .i64 i)]) (fun (i : Nat) => [(0, .vec 100 (.sl rTerm) (s.take i))]) 1 (fun (i : Nat) => s.length - i) 0 (Nat.zero_le _) (le_of ⟨rfl, rfl, rfl, rfl⟩ rfl rfl) ?_
  intro i hI0
  refine acode_seq ?_
  refine acode_region ?_
  refine acode_seq ?_
  refine acode_cond rfl (fun h13 => ?_) (fun h13 => ?_)
  ·try simp only [decide_eq_true_eq] at h13
   try simp only [Int.toNat_natCast, dflt_sl, dflt_st, dflt_str, dflt_int, dflt_bool] at h13
   have hr := hs.2 _ (getD_mem (show i < s.length by omega) [])
   have hs1 := hs.1
   refine acode_skip ?_
   refine acode_seq ?_
   refine acode_block ?_
   refine acode_seq ?_
   refine acode_region ?_
   refine And.intro (by first | omega | assumption | decide | (simp only [Int.toNat_natCast, dflt_sl, dflt_st, dflt_str, dflt_int, dflt_bool]; omega) | (simp <;> omega)) ?_
   refine acode_seq ?_
   refine acode_region ?_
   refine acode_seq ?_
   refine acode_seq ?_
   refine acode_region ?_
   intro l6_1
   try simp only [Int.toNat_natCast, dflt_sl] at l6_1
   refine acode_block ?_
   refine acode_loopP (fun (j : Nat) => j ≤ (s.getD i []).length) (fun (j : Nat) => [(3, .one (.vec 0)), (10, .one (.sl (.sl rTerm) s)), (11, ii .i64 s.length), (12, ii .i64 i), (6, .one (.vec 1)), (17, .one (.sl rTerm (s.getD i []))), (18, ii .i64 (s.getD i []).length), (19, ii .i64 j)]) (fun (j : Nat) => [(0, .vec 100 (.sl rTerm) (s.take i)), (1, .vec 102 rTerm ((s.getD i []).take j))]) 2 (fun (j : Nat) => (s.getD i []).length - j) 0 (Nat.zero_le _) (le_of ⟨rfl, rfl, rfl, rfl, rfl, rfl, rfl, rfl⟩ ⟨rfl, rfl⟩ rfl) ?_
   intro j hI2
   refine acode_seq ?_
   refine acode_region ?_
   refine acode_seq ?_
   refine acode_cond rfl (fun h20 => ?_) (fun h20 => ?_)
   ·try simp only [decide_eq_true_eq] at h20
    try simp only [Int.toNat_natCast, dflt_sl, dflt_st, dflt_str, dflt_int, dflt_bool] at h20
    refine acode_skip ?_
    refine acode_seq ?_
    refine acode_block ?_
    refine acode_seq ?_
    refine acode_region ?_
    refine And.intro (by first | omega | assumption | decide | (simp only [Int.toNat_natCast, dflt_sl, dflt_st, dflt_str, dflt_int, dflt_bool]; omega) | (simp <;> omega)) ?_
    refine acode_region ?_
    refine And.intro (by show (((s.getD i []).take j).length + 1) * 48 ≤ 140737488355328; rw [List.length_take]; omega) ?_
    refine acode_region ?_
    refine And.intro (by first | omega | assumption | decide | (simp only [Int.toNat_natCast, dflt_sl, dflt_st, dflt_str, dflt_int, dflt_bool]; omega) | (simp <;> omega)) ?_
    exact ⟨j + 1, by omega, by first | omega | (simp <;> omega), le_of ⟨rfl, rfl, rfl, rfl, rfl, rfl, rfl, rfl⟩ ⟨rfl, (vec_eq (take_snoc (false, ByteArray.empty, (0 : Int), ByteArray.empty) (by omega)))⟩ rfl⟩
   ·try simp only [decide_eq_false_iff_not, Int.not_lt] at h20
    try simp only [Int.toNat_natCast, dflt_sl, dflt_st, dflt_str, dflt_int, dflt_bool] at h20
    refine acode_exit ?_
    have e2 : j = (s.getD i []).length := by omega
    subst e2
    refine acode_region ?_
    refine And.intro (by show ((s.take i).length + 1) * 24 ≤ 140737488355328; rw [List.length_take]; omega) ?_
    refine acode_region ?_
    refine And.intro (by first | omega | assumption | decide | (simp only [Int.toNat_natCast, dflt_sl, dflt_st, dflt_str, dflt_int, dflt_bool]; omega) | (simp <;> omega)) ?_
    exact ⟨i + 1, by omega, by first | omega | (simp <;> omega), le_of ⟨rfl, rfl, rfl, rfl⟩ (vec_eq ((congrArg (s.take i ++ [·]) (List.take_length)).trans (take_snoc [] (by omega)))) rfl⟩
  ·try simp only [decide_eq_false_iff_not, Int.not_lt] at h13
   try simp only [Int.toNat_natCast, dflt_sl, dflt_st, dflt_str, dflt_int, dflt_bool] at h13
   refine acode_exit ?_
   refine acode_seq ?_
   refine acode_region ?_
   refine acode_ret ?_
   refine sl_eq ?_
   have e : i = s.length := by omega
   subst e
   exact List.take_length
def bigR9 (r : List Term) : Bool := decide (8 < r.length) || r.any QQ.bigT
def big9 (t : ByteArray) (s : List (List Term)) : Bool := decide (2000 < t.size) || (decide (8 < s.length) || s.any bigR9)
def al9T : List Itm := [(3, ⟨#[65, 58, 32, 49, 10]⟩, [(⟨#[65]⟩, ⟨#[49]⟩)]), (1, ⟨#[10]⟩, []), (3, ⟨#[65, 58, 32, 50, 10]⟩, [(⟨#[65]⟩, ⟨#[50]⟩)]), (1, ⟨#[10]⟩, []), (3, ⟨#[65, 58, 32, 51, 10]⟩, [(⟨#[65]⟩, ⟨#[51]⟩)])]
theorem al9_parse : parseS ⟨#[65, 58, 32, 49, 10, 10, 65, 58, 32, 50, 10, 10, 65, 58, 32, 51, 10]⟩ = .inr al9T := by decide +kernel
def al9E : List Ent := numI 1 al9T
def al9S : List Stz := [(1, [(⟨#[65]⟩, ⟨#[49]⟩)]), (2, [(⟨#[65]⟩, ⟨#[50]⟩)]), (3, [(⟨#[65]⟩, ⟨#[51]⟩)])]
def al9D : List Ent := delE al9E 2
def al9R : List Stz := [(1, [(⟨#[65]⟩, ⟨#[49]⟩)]), (3, [(⟨#[65]⟩, ⟨#[51]⟩)])]
theorem al9_flds : ∀ e ∈ al9E, FldsOk e.1.2.2 := fun e he => fldsOk_of (num_small al9_parse e he).1 (num_small al9_parse e he).2
theorem al9_sf : ∀ x ∈ al9S, FldsOk x.2 := by
  intro x hx
  have := stz_flds al9_flds x
  rw [show stzL al9E = al9S from by decide +kernel] at this
  exact this hx
theorem al9_rf : ∀ x ∈ al9R, FldsOk x.2 := fun x hx => al9_sf x (by
  unfold al9R at hx
  unfold al9S
  simp only [List.mem_cons, List.not_mem_nil, or_false] at hx ⊢
  rcases hx with rfl | rfl <;> simp)
theorem alive9_c : ACall Tryz.prog 12 [] (ib true) := by
  have hof := of_ok _ (by decide) al9_parse
  rw [show ofT al9T = (al9E, 4, 3) from rfl] at hof
  have hnw := (new_o (k := 1) (κ := 1) [[]] al9E 4 3 (by decide) al9_flds (by decide) (by simp)).x
  rw [show fndS [[]] al9E = al9S from by decide +kernel] at hnw
  have hn1 := next_yes [[]] al9S 0 (by decide) (by decide) al9_sf
  have hdl := lDel_ok al9E 4 3 2 2 (by decide) (by decide +kernel) ⟨by decide, by decide⟩ (by decide)
  have hmv := (move_o (k := 1) [[]] al9S 1 (by decide) al9D 4 2 (by decide) (fun e he => al9_flds e (mem_del he)) (by decide)).x
  rw [show fndS [[]] al9D = al9R from by decide +kernel, show movP al9R (al9S.drop 1) = ((1 : Nat) : Int) from by decide +kernel] at hmv
  have hn2 := next_yes [[]] al9R 1 (by decide) (by decide) al9_rf
  refine acall_of (rs := [0]) Tryz.func12 rfl rfl rfl teOk rfl ?_
  refine acode_seq ?_
  refine acode_region ?_
  refine acode_seq ?_
  refine acode_region ?_
  refine Or.inr (Or.inl (Exists.intro [] (Exists.intro [] (Exists.intro _ (Exists.intro _ (Exists.intro _ (Exists.intro _ (Exists.intro _ (And.intro (hof) (And.intro rfl (And.intro True.intro (And.intro rfl ?_))))))))))))
  refine acode_seq ?_
  refine acode_seq ?_
  refine acode_region ?_
  refine And.intro (fun h => trivial) ?_
  refine And.intro (fun h => ⟨⟨h, trivial⟩, trivial⟩) ?_
  refine And.intro (by first | (intro h; rw [h]; rfl) | (intro h; cases h)) ?_
  refine acode_cond rfl (fun h15 => ?_) (fun h15 => ?_)
  ·try simp only [Bool.not_eq_true', Bool.or_eq_true] at h15
   try simp only [Int.toNat_natCast, dflt_sl, dflt_st, dflt_str, dflt_int, dflt_bool] at h15
   simp at h15
  ·try simp only [Bool.not_eq_false', Bool.or_eq_false_iff] at h15
   try simp only [Int.toNat_natCast, dflt_sl, dflt_st, dflt_str, dflt_int, dflt_bool] at h15
   refine acode_skip ?_
   refine acode_seq ?_
   refine acode_region ?_
   refine Or.inr (Or.inr (Or.inr (Exists.intro [] (Exists.intro [] (Exists.intro _ (Exists.intro _ (Exists.intro _ (Exists.intro _ (Exists.intro _ (And.intro (hnw) (And.intro rfl (And.intro True.intro (And.intro rfl ?_)))))))))))))
   refine acode_seq ?_
   refine acode_region ?_
   refine Or.inr (Or.inl (Exists.intro [] (Exists.intro [3] (Exists.intro _ (Exists.intro _ (Exists.intro _ (Exists.intro _ (Exists.intro _ (And.intro (hn1) (And.intro rfl (And.intro (And.intro (And.intro rfl rfl) True.intro) (And.intro rfl ?_))))))))))))
   refine acode_seq ?_
   refine acode_seq ?_
   refine acode_region ?_
   refine And.intro (fun h => trivial) ?_
   refine And.intro (fun h => ⟨⟨h, trivial⟩, trivial⟩) ?_
   refine And.intro (fun h => ⟨⟨h, trivial⟩, trivial⟩) ?_
   refine And.intro (by first | (intro h; rw [h]; rfl) | (intro h; cases h)) ?_
   refine And.intro (fun h => trivial) ?_
   refine Or.inr (And.intro (by first | rfl | decide | simp) (And.intro (by repeat' (first | exact True.intro | apply And.intro | rfl | decide | simp)) ?_))
   refine Or.inr (Or.inl (Exists.intro [] (Exists.intro [0, 1] (Exists.intro _ (Exists.intro _ (Exists.intro _ (Exists.intro _ (Exists.intro _ (And.intro (hdl) (And.intro rfl (And.intro (And.intro (And.intro rfl rfl) (And.intro (And.intro rfl rfl) True.intro)) (And.intro rfl ?_))))))))))))
   refine And.intro (fun h => trivial) ?_
   refine And.intro (by first | (intro h; rw [h]; rfl) | (intro h; cases h)) ?_
   refine acode_cond rfl (fun h35 => ?_) (fun h35 => ?_)
   ·try simp only [decide_eq_false_iff_not, Bool.not_eq_true', Bool.or_eq_true] at h35
    try simp only [Int.toNat_natCast, dflt_sl, dflt_st, dflt_str, dflt_int, dflt_bool] at h35
    first | (simp at h35; done) | (exact absurd h35 (by decide))
   ·try simp only [decide_eq_true_eq, Bool.not_eq_false', Bool.or_eq_false_iff] at h35
    try simp only [Int.toNat_natCast, dflt_sl, dflt_st, dflt_str, dflt_int, dflt_bool] at h35
    refine acode_skip ?_
    refine acode_seq ?_
    refine acode_region ?_
    refine Or.inr (Or.inr (Or.inr (Exists.intro [3] (Exists.intro [] (Exists.intro _ (Exists.intro _ (Exists.intro _ (Exists.intro _ (Exists.intro _ (And.intro (hmv) (And.intro rfl (And.intro (And.intro (And.intro rfl rfl) True.intro) (And.intro rfl ?_)))))))))))))
    refine acode_seq ?_
    refine acode_region ?_
    refine Or.inr (Or.inl (Exists.intro [] (Exists.intro [3] (Exists.intro _ (Exists.intro _ (Exists.intro _ (Exists.intro _ (Exists.intro _ (And.intro (hn2) (And.intro rfl (And.intro (And.intro (And.intro rfl rfl) True.intro) (And.intro rfl ?_))))))))))))
    refine acode_seq ?_
    refine acode_region ?_
    refine And.intro (fun h => trivial) ?_
    refine And.intro (fun h => ⟨⟨h, trivial⟩, trivial⟩) ?_
    refine And.intro (fun h => ⟨⟨h, trivial⟩, trivial⟩) ?_
    refine And.intro (by exact fun h => h) ?_
    refine And.intro (fun h => trivial) ?_
    refine Or.inl ?_
    refine And.intro (rfl) ?_
    refine Exists.intro _ (And.intro (fun h => ⟨⟨⟨h, trivial⟩, trivial⟩, curPlace_c [[]] al9R _⟩) ?_)
    refine And.intro (fun h => ⟨⟨h, trivial⟩, trivial⟩) ?_
    refine And.intro (by exact fun h => h) ?_
    refine And.intro (fun h => trivial) ?_
    refine Or.inl ?_
    refine And.intro (rfl) ?_
    refine Exists.intro _ (And.intro (fun h => ⟨⟨⟨h, trivial⟩, trivial⟩, curLen_c [[]] al9R _⟩) ?_)
    refine And.intro (fun h => ⟨⟨h, trivial⟩, trivial⟩) ?_
    refine And.intro (by exact fun h => h) ?_
    refine acode_ret ?_
    first | rfl | exact ib_eq (by decide)
end Q
end Ab
end Go.Proofs.YtnimhpgacmojiaaGreatDoor
namespace Go.Proofs.YtnimhpgacmojiaaGreatDoor
open Go.RowKit
namespace Ab
set_option maxRecDepth 100000
namespace Q
theorem moveN_c : ACall Tryz.prog 13 [.one (.lit (.pointer none)), .one (.lit (.pointer none))] (.tup []) := by
  refine acall_of (rs := []) Tryz.func13 rfl rfl rfl teOk rfl ?_
  refine acode_seq ?_
  refine acode_seq ?_
  refine acode_region ?_
  refine acode_cond rfl (fun h8 => ?_) (fun h8 => ?_)
  ·try simp only [Bool.not_eq_true'] at h8
   try simp only [Int.toNat_natCast, dflt_sl, dflt_st, dflt_str, dflt_int, dflt_bool] at h8
   refine acode_ret ?_
   rfl
  ·try simp only [Bool.not_eq_false'] at h8
   try simp only [Int.toNat_natCast, dflt_sl, dflt_st, dflt_str, dflt_int, dflt_bool] at h8
   simp at h8
theorem skipN_c (n : Int) : ACall Tryz.prog 17 [.one (.lit (.pointer none)), ii .i64 n] (ii .i64 0) := by
  refine acall_of (rs := [4]) Tryz.func17 rfl rfl rfl teOk rfl ?_
  refine acode_seq ?_
  refine acode_region ?_
  refine acode_seq ?_
  refine acode_seq ?_
  refine acode_region ?_
  refine acode_cond rfl (fun h6 => ?_) (fun h6 => ?_)
  ·try simp only [Bool.not_eq_true'] at h6
   try simp only [Int.toNat_natCast, dflt_sl, dflt_st, dflt_str, dflt_int, dflt_bool] at h6
   refine acode_seq ?_
   refine acode_region ?_
   refine acode_ret ?_
   rfl
  ·try simp only [Bool.not_eq_false'] at h6
   try simp only [Int.toNat_natCast, dflt_sl, dflt_st, dflt_str, dflt_int, dflt_bool] at h6
   simp at h6
theorem seekN_c (n : Int) : ACall Tryz.prog 18 [.one (.lit (.pointer none)), ii .i64 n] (ib false) := by
  refine acall_of (rs := [4]) Tryz.func18 rfl rfl rfl teOk rfl ?_
  refine acode_seq ?_
  refine acode_region ?_
  refine acode_seq ?_
  refine acode_seq ?_
  refine acode_region ?_
  refine acode_cond rfl (fun h7 => ?_) (fun h7 => ?_)
  ·try simp only [Bool.not_eq_true'] at h7
   try simp only [Int.toNat_natCast, dflt_sl, dflt_st, dflt_str, dflt_int, dflt_bool] at h7
   refine acode_seq ?_
   refine acode_region ?_
   refine acode_ret ?_
   rfl
  ·try simp only [Bool.not_eq_false'] at h7
   try simp only [Int.toNat_natCast, dflt_sl, dflt_st, dflt_str, dflt_int, dflt_bool] at h7
   simp at h7
theorem placeN_c : ACall Tryz.prog 19 [.one (.lit (.pointer none))] (ii .i64 0) := by
  refine acall_of (rs := [2]) Tryz.func19 rfl rfl rfl teOk rfl ?_
  refine acode_seq ?_
  refine acode_region ?_
  refine acode_seq ?_
  refine acode_seq ?_
  refine acode_region ?_
  refine acode_cond rfl (fun h4 => ?_) (fun h4 => ?_)
  ·try simp only [Bool.not_eq_true'] at h4
   try simp only [Int.toNat_natCast, dflt_sl, dflt_st, dflt_str, dflt_int, dflt_bool] at h4
   refine acode_seq ?_
   refine acode_region ?_
   refine acode_ret ?_
   rfl
  ·try simp only [Bool.not_eq_false'] at h4
   try simp only [Int.toNat_natCast, dflt_sl, dflt_st, dflt_str, dflt_int, dflt_bool] at h4
   simp at h4
theorem curLenN_c : ACall Tryz.prog 20 [.one (.lit (.pointer none))] (ii .i64 0) := by
  refine acall_of (rs := [2]) Tryz.func20 rfl rfl rfl teOk rfl ?_
  refine acode_seq ?_
  refine acode_region ?_
  refine acode_seq ?_
  refine acode_seq ?_
  refine acode_region ?_
  refine acode_cond rfl (fun h4 => ?_) (fun h4 => ?_)
  ·try simp only [Bool.not_eq_true'] at h4
   try simp only [Int.toNat_natCast, dflt_sl, dflt_st, dflt_str, dflt_int, dflt_bool] at h4
   refine acode_seq ?_
   refine acode_region ?_
   refine acode_ret ?_
   rfl
  ·try simp only [Bool.not_eq_false'] at h4
   try simp only [Int.toNat_natCast, dflt_sl, dflt_st, dflt_str, dflt_int, dflt_bool] at h4
   simp at h4
theorem nextN_c9 : ACall Tryz.prog 14 [.one (.lit (.pointer none))] (.tup [(true, [.lit (.int .i64 0), .lit (.slice none 0 0)]), (false, [.lit (.bool false)])]) := by
  refine acall_ofc (rs := [.cell 2 27, .tmp 3]) Tryz.func14 rfl rfl rfl teOk rfl ?_
  refine acode_seq ?_
  refine acode_region ?_
  refine acode_seq ?_
  refine acode_seq ?_
  refine acode_region ?_
  refine Or.inl ?_
  refine And.intro (rfl) ?_
  refine Exists.intro _ (And.intro (skipN_c 1) ?_)
  refine acode_cond rfl (fun h6 => ?_) (fun h6 => ?_)
  ·try simp only [decide_eq_true_eq] at h6
   try simp only [Int.toNat_natCast, dflt_sl, dflt_st, dflt_str, dflt_int, dflt_bool] at h6
   refine acode_seq ?_
   refine acode_region ?_
   refine acode_ret ?_
   rfl
  ·try simp only [decide_eq_false_iff_not] at h6
   try simp only [Int.toNat_natCast, dflt_sl, dflt_st, dflt_str, dflt_int, dflt_bool] at h6
   simp at h6
theorem prevN_c9 : ACall Tryz.prog 15 [.one (.lit (.pointer none))] (.tup [(true, [.lit (.int .i64 0), .lit (.slice none 0 0)]), (false, [.lit (.bool false)])]) := by
  refine acall_ofc (rs := [.cell 2 27, .tmp 3]) Tryz.func15 rfl rfl rfl teOk rfl ?_
  refine acode_seq ?_
  refine acode_region ?_
  refine acode_seq ?_
  refine acode_seq ?_
  refine acode_region ?_
  refine Or.inl ?_
  refine And.intro (rfl) ?_
  refine Exists.intro _ (And.intro (skipN_c (-1)) ?_)
  refine acode_cond rfl (fun h6 => ?_) (fun h6 => ?_)
  ·try simp only [decide_eq_true_eq] at h6
   try simp only [Int.toNat_natCast, dflt_sl, dflt_st, dflt_str, dflt_int, dflt_bool] at h6
   refine acode_seq ?_
   refine acode_region ?_
   refine acode_ret ?_
   rfl
  ·try simp only [decide_eq_false_iff_not] at h6
   try simp only [Int.toNat_natCast, dflt_sl, dflt_st, dflt_str, dflt_int, dflt_bool] at h6
   simp at h6
theorem restI_c : ACall Tryz.prog 63 [.one (.lit (.pointer none))] (.one (.clo2 95 (.addr (.sl rStz) []) (.ref (.lit (.pointer none))))) := by
  refine acall_of (rs := [2]) Tryz.func63 rfl rfl rfl teOk rfl ?_
  refine acode_seq ?_
  refine acode_region ?_
  refine acode_seq ?_
  refine acode_region ?_
  refine acode_seq ?_
  refine acode_seq ?_
  refine acode_region ?_
  refine acode_cond rfl (fun h5 => ?_) (fun h5 => ?_)
  ·try simp only [Bool.not_eq_true'] at h5
   try simp only [Int.toNat_natCast, dflt_sl, dflt_st, dflt_str, dflt_int, dflt_bool] at h5
   simp at h5
  ·try simp only [Bool.not_eq_false'] at h5
   try simp only [Int.toNat_natCast, dflt_sl, dflt_st, dflt_str, dflt_int, dflt_bool] at h5
   refine acode_skip ?_
   refine acode_seq ?_
   refine acode_region ?_
   refine acode_frz [0, 1] ?_
   refine acode_ret ?_
   exact rfl
theorem rest_iter0 : AIter Tryz.prog 95 [.one (.addr (.sl rStz) []), .one (.ref (.lit (.pointer none)))] [] := by
  refine aiter_of Tryz.func95 rfl rfl rfl teOk rfl ?_
  intro l ι Pr J U n0 hU hab hy
  refine acodeY_seq ?_
  refine acodeY_seg hab hU rfl ?_
  refine acode_region ?_
  intro hln
  refine ⟨_, _, _, le_refl, ?_⟩
  refine acodeY_block ?_
  refine acodeY_loop (κ := Nat) (fun i => i = 0) (fun _ => 0) (fun _ => [(0, .one (.lit (.func (.yield l) #[] #[]))), (6, .one (.sl rStz [])), (7, ii .i64 0), (8, ii .i64 0)]) (fun _ => []) 0 (fun _ => 0) 0 rfl hab hU (le_of ⟨rfl, rfl, rfl, rfl⟩ trivial rfl) rfl ?_
  intro i hi
  refine acodeY_seq ?_
  refine acodeY_seg hab hU rfl ?_
  refine acode_region ?_
  refine ⟨_, _, _, le_refl, ?_⟩
  refine acodeY_seq ?_
  refine acodeY_cond rfl (fun h13 => ?_) (fun h13 => ?_)
  ·simp at h13
  ·refine acodeY_exit ?_
   exact ⟨.inr rfl, fun _ => rfl⟩
theorem restN_c (n : Int) : ACall Tryz.prog 21 [.one (.lit (.pointer none)), ii .i64 n] (.one (.sl rStz [])) := by
  refine acall_of (rs := [4]) Tryz.func21 rfl rfl rfl teOk rfl ?_
  refine acode_seq ?_
  refine acode_region ?_
  refine acode_seq ?_
  refine acode_region ?_
  refine acode_seq ?_
  refine acode_seq ?_
  refine acode_region ?_
  refine Or.inl ?_
  refine And.intro (rfl) ?_
  refine Exists.intro _ (And.intro (restI_c) ?_)
  refine acode_block ?_
  refine acode_range (caps := [.one (.addr (.sl rStz) []), .one (.ref (.lit (.pointer none)))]) (xs := []) [(3, .one (.own 0 0)), (5, .one (.own 2 0)), (9, .one (.clo2 95 (.addr (.sl rStz) []) (.ref (.lit (.pointer none)))))] 3 (fun st j (i : Nat) => st = false ∧ i = j) (fun _ => [(0, .box 3 [.lit (.int .i64 n)]), (2, .box 36 [.vec 1]), (1, .vec 27 rStz [])]) (fun _ => .ret) 0 rfl rfl rest_iter0 (le_of ⟨rfl, rfl, rfl⟩ ⟨rfl, rfl, rfl⟩ rfl) ⟨rfl, rfl⟩ (fun j hj => by cases hj) rfl rfl rfl (fun _ _ _ => rfl) rfl ?_ ?_ ?_
  ·intro j i hk hp
   cases hk
  ·intro i hp
   obtain ⟨_, rfl⟩ := hp
   refine acode_seq ?_
   refine acode_region ?_
   refine acode_ret ?_
   exact rfl
  ·intro j i hp
   exact absurd hp.1 (by decide)
theorem deleteN_c (f : FuncId) {κ : Nat} {β : Type} (S : Rd β) (y : β) : ACall Tryz.prog 89 [.one (.sl rStz []), .one (.clo f (.adk κ S y))] (.one (.sl rStz [])) := by
  have hix := indexS_c f (k := 0) (κ := κ) S y [] (fun _ => false) (fun x hx => by cases hx)
  rw [show ixOf (fun _ => false) ([] : List Stz) = -1 from rfl] at hix
  refine acall_of (rs := [4]) Tryz.func89 rfl rfl rfl teOk rfl ?_
  refine acode_seq ?_
  refine acode_region ?_
  refine acode_seq ?_
  refine acode_region ?_
  refine Or.inl ?_
  refine And.intro (rfl) ?_
  refine Exists.intro _ (And.intro (hix) ?_)
  refine acode_seq ?_
  refine acode_seq ?_
  refine acode_region ?_
  refine acode_cond rfl (fun h12 => ?_) (fun h12 => ?_)
  ·try simp only [decide_eq_true_eq] at h12
   try simp only [Int.toNat_natCast, dflt_sl, dflt_st, dflt_str, dflt_int, dflt_bool] at h12
   refine acode_seq ?_
   refine acode_region ?_
   refine acode_ret ?_
   rfl
  ·try simp only [decide_eq_false_iff_not] at h12
   try simp only [Int.toNat_natCast, dflt_sl, dflt_st, dflt_str, dflt_int, dflt_bool] at h12
   simp at h12
theorem foundN_c (s : List (List Term)) : ACall Tryz.prog 59 [.one (.lit (.pointer none)), .one (.sl (.sl rTerm) s)] (.one (.sl rStz [])) := by
  refine acall_of (rs := [4]) Tryz.func59 rfl rfl rfl teOk rfl ?_
  refine acode_seq ?_
  refine acode_region ?_
  refine acode_seq ?_
  refine acode_region ?_
  refine Or.inl ?_
  refine And.intro (rfl) ?_
  refine Exists.intro _ (And.intro (stanzasN_c) ?_)
  refine Or.inl ?_
  refine And.intro (rfl) ?_
  refine Exists.intro _ (And.intro (deleteN_c _ (κ := 0) rSel s) ?_)
  refine acode_ret ?_
  rfl
theorem newN_o {κ : Nat} (s : List (List Term)) (hs : s.length ≤ 1000000) (hsr : ∀ r ∈ s, r.length ≤ 1000000) : ACallO Tryz.prog 16 [.one (.lit (.pointer none)), .one (.slk κ (.sl rTerm) s)] [] 0 (.one (.own 0 0)) (crsO s [] 0) 1 := by
  refine acallo_of (rs := [4]) Tryz.func16 rfl rfl rfl teOk (by decide) rfl ?_
  refine acode_seq ?_
  refine acode_region ?_
  refine acode_seq ?_
  refine acode_region ?_
  refine Or.inl ?_
  refine And.intro (rfl) ?_
  refine Exists.intro _ (And.intro (copiedS_c s hs hsr) ?_)
  refine acode_seq ?_
  refine acode_region ?_
  refine Or.inl ?_
  refine And.intro (rfl) ?_
  refine Exists.intro _ (And.intro (foundN_c s) ?_)
  refine acode_ret ?_
  exact ⟨rfl, rfl, rfl⟩
theorem CursorNone_c (n : Int) (hw : (Lit.int .i64 n).wf = true) : ACall Tryz.prog 3 [ii .i64 n] (ib true) := by
  have hn : -9223372036854775808 ≤ n ∧ n ≤ 9223372036854775807 := by
    simp [Lit.wf, IntKind.min, IntKind.max, IntKind.signed, IntKind.bits] at hw
    omega
  have hnx := next_no [[]] [] (by decide)
  have hsk := skip_o [[]] [] (0 + 0) n 0 (by unfold skipR; simp only [List.length_nil]; split <;> split <;> omega) (by simp) (by decide) hn
  refine acall_of (rs := [2]) Tryz.func3 rfl rfl rfl teOk rfl ?_
  refine acode_seq ?_
  refine acode_region ?_
  refine acode_seq ?_
  refine acode_seq ?_
  refine acode_region ?_
  refine Or.inl ?_
  refine And.intro (rfl) ?_
  refine Exists.intro _ (And.intro (alive9_c) ?_)
  refine acode_cond rfl (fun h12 => ?_) (fun h12 => ?_)
  ·try simp only [Bool.not_eq_true'] at h12
   try simp only [Int.toNat_natCast, dflt_sl, dflt_st, dflt_str, dflt_int, dflt_bool] at h12
   simp at h12
  ·try simp only [Bool.not_eq_false'] at h12
   try simp only [Int.toNat_natCast, dflt_sl, dflt_st, dflt_str, dflt_int, dflt_bool] at h12
   refine acode_skip ?_
   refine acode_seq ?_
   refine acode_region ?_
   refine acode_seq ?_
   refine acode_region ?_
   refine Or.inl ?_
   refine And.intro (rfl) ?_
   refine Exists.intro _ (And.intro (moveN_c) ?_)
   refine acode_seq ?_
   refine acode_region ?_
   refine Or.inl ?_
   refine And.intro (rfl) ?_
   refine Exists.intro _ (And.intro (nextN_c9) ?_)
   refine acode_seq ?_
   refine acode_region ?_
   refine Or.inl ?_
   refine And.intro (rfl) ?_
   refine Exists.intro _ (And.intro (prevN_c9) ?_)
   refine acode_seq ?_
   refine acode_region ?_
   refine Or.inr (Or.inr (Or.inr (Exists.intro [] (Exists.intro [] (Exists.intro _ (Exists.intro _ (Exists.intro _ (Exists.intro _ (Exists.intro _ (And.intro ((newN_o (κ := 1) [[]] (by decide) (by simp)).x) (And.intro rfl (And.intro True.intro (And.intro rfl ?_)))))))))))))
   refine acode_seq ?_
   refine acode_region ?_
   refine Or.inr (Or.inl (Exists.intro [] (Exists.intro [3] (Exists.intro _ (Exists.intro _ (Exists.intro _ (Exists.intro _ (Exists.intro _ (And.intro (hnx) (And.intro rfl (And.intro (And.intro (And.intro rfl rfl) True.intro) (And.intro rfl ?_))))))))))))
   refine acode_seq ?_
   refine acode_region ?_
   refine And.intro (fun h => trivial) ?_
   refine And.intro (fun h => ⟨⟨h, trivial⟩, trivial⟩) ?_
   refine And.intro (by exact fun h => h) ?_
   refine And.intro (fun h => trivial) ?_
   refine And.intro (fun h => trivial) ?_
   refine Or.inl ?_
   refine And.intro (rfl) ?_
   refine Exists.intro _ (And.intro (fun h => ⟨⟨⟨h, trivial⟩, ⟨h, trivial⟩, trivial⟩, skipN_c n⟩) ?_)
   refine And.intro (fun h => ⟨⟨h, trivial⟩, trivial⟩) ?_
   refine And.intro (by exact fun h => h) ?_
   refine And.intro (fun h => trivial) ?_
   refine And.intro (fun h => trivial) ?_
   refine Or.inl ?_
   refine And.intro (rfl) ?_
   refine Exists.intro _ (And.intro (fun h => ⟨⟨⟨h, trivial⟩, ⟨h, trivial⟩, trivial⟩, seekN_c n⟩) ?_)
   refine And.intro (fun h => ⟨⟨h, trivial⟩, trivial⟩) ?_
   refine And.intro (by exact fun h => h) ?_
   refine And.intro (fun h => trivial) ?_
   refine Or.inl ?_
   refine And.intro (rfl) ?_
   refine Exists.intro _ (And.intro (fun h => ⟨⟨⟨h, trivial⟩, trivial⟩, placeN_c⟩) ?_)
   refine And.intro (fun h => ⟨⟨h, trivial⟩, trivial⟩) ?_
   refine And.intro (by exact fun h => h) ?_
   refine And.intro (fun h => trivial) ?_
   refine Or.inl ?_
   refine And.intro (rfl) ?_
   refine Exists.intro _ (And.intro (fun h => ⟨⟨⟨h, trivial⟩, trivial⟩, curLenN_c⟩) ?_)
   refine And.intro (fun h => ⟨⟨h, trivial⟩, trivial⟩) ?_
   refine And.intro (by exact fun h => h) ?_
   refine And.intro (fun h => trivial) ?_
   refine Or.inl ?_
   refine And.intro (rfl) ?_
   refine Exists.intro _ (And.intro (fun h => ⟨⟨⟨h, trivial⟩, trivial⟩, restN_c 0⟩) ?_)
   refine And.intro (fun h => ⟨⟨h, trivial⟩, trivial⟩) ?_
   refine And.intro (fun h => ⟨⟨h, trivial⟩, trivial⟩) ?_
   refine And.intro (by exact fun h => h) ?_
   refine And.intro (fun h => trivial) ?_
   refine And.intro (fun h => ⟨⟨h, trivial⟩, trivial⟩) ?_
   refine And.intro (by exact fun h => h) ?_
   refine And.intro (fun h => trivial) ?_
   refine Or.inl ?_
   refine And.intro (rfl) ?_
   refine Exists.intro _ (And.intro (fun h => ⟨⟨⟨h, trivial⟩, trivial⟩, curLen_c [[]] [] _⟩) ?_)
   refine And.intro (fun h => ⟨⟨h, trivial⟩, trivial⟩) ?_
   refine And.intro (by exact fun h => h) ?_
   refine And.intro (fun h => trivial) ?_
   refine And.intro (fun h => trivial) ?_
   refine Or.inr (And.intro (by first | rfl | decide | simp [gq]) (And.intro (by repeat' (first | exact True.intro | apply And.intro | rfl | decide | simp)) ?_))
   refine Or.inr (Or.inl (Exists.intro [] (Exists.intro [3] (Exists.intro _ (Exists.intro _ (Exists.intro _ (Exists.intro _ (Exists.intro _ (And.intro (hsk) (And.intro rfl (And.intro (And.intro (And.intro rfl rfl) True.intro) (And.intro rfl ?_))))))))))))
   refine And.intro (fun h => trivial) ?_
   refine And.intro (by exact fun h => h) ?_
   refine acode_ret ?_
   first | rfl | exact ib_eq (by simp)
end Q
end Ab
end Go.Proofs.YtnimhpgacmojiaaGreatDoor
namespace Go.Proofs.YtnimhpgacmojiaaGreatDoor
open Go.RowKit
namespace Ab
set_option maxRecDepth 100000
theorem globAt {W : World} (h : W.ShapedOpen Tryz.prog) : GlobAt AllOk W := by
  have hc : GlobCell W := cell_of_shapedOpen_int (g := 0) (t := 3) (zero := #[.int .i64 0]) h (of_decide_eq_true (by kernel_rfl)) (by kernel_rfl) rfl (by kernel_rfl) (by kernel_rfl) Tryz.underlying3
  refine ⟨trivial, ?_, hc⟩
  obtain ⟨m, hm⟩ := hc
  rcases Nat.lt_or_ge 0 W.heap.size with h1 | h1
  · exact h1
  · exfalso
    simp only [World.cell?, Array.getElem?_eq_none h1] at hm
    cases hm
end Ab
end Go.Proofs.YtnimhpgacmojiaaGreatDoor
namespace Go.Proofs.YtnimhpgacmojiaaGreatDoor
open Go.RowKit
namespace Ab
set_option maxRecDepth 100000
end Ab
end Go.Proofs.YtnimhpgacmojiaaGreatDoor
