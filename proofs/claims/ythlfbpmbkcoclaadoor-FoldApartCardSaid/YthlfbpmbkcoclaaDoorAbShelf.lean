/-
  The library's functions, abstractly: each by its contract on the shelf.
-/
import Derived.Test.YthlfbpmbkcoclaaDoorAbBldS
import Derived.Test.YthlfbpmbkcoclaaDoorShelf
import Derived.Lib.SplitLaws
namespace Go.Proofs.YthlfbpmbkcoclaaDoor
open Go.RowKit
namespace Ab

theorem acall1 {P : Program} {f : FuncId} {a u : Value} {r : A} (hfn : FnOk P f) (hr : ∀ ok w, r.rep ok noNames w u) (h : ∀ w, GlobCell w → Calls P f #[a] w fun e w' => e = .returned u ∧ Below w.heap.size w w') : ACall P f [.one (.lit a)] r := by
  refine ⟨hfn, fun ok w vs hg hvs => ?_⟩
  obtain ⟨v, t, rfl, hv, ht⟩ := hvs
  rw [show t = [] from ht, show v = a from hv]
  refine (h w hg.2.2).mono ?_
  rintro e w' ⟨rfl, hb⟩
  exact ⟨_, rfl, hb, hr _ _⟩
theorem acall2 {P : Program} {f : FuncId} {a b u : Value} {r : A} (hfn : FnOk P f) (hr : ∀ ok w, r.rep ok noNames w u) (h : ∀ w, GlobCell w → Calls P f #[a, b] w fun e w' => e = .returned u ∧ Below w.heap.size w w') : ACall P f [.one (.lit a), .one (.lit b)] r := by
  refine ⟨hfn, fun ok w vs hg hvs => ?_⟩
  obtain ⟨v, t, rfl, hv, v2, t2, rfl, hv2, ht⟩ := hvs
  rw [show t2 = [] from ht, show v = a from hv, show v2 = b from hv2]
  refine (h w hg.2.2).mono ?_
  rintro e w' ⟨rfl, hb⟩
  exact ⟨_, rfl, hb, hr _ _⟩
theorem same_below {e : Ending} {u : Value} {w w' : World} (h : e = .returned u ∧ w' = w) : e = .returned u ∧ Below w.heap.size w w' := ⟨h.1, by rw [h.2]; exact Below.refl _ _⟩
theorem hasPrefix_c (s p : ByteArray) : ACall Tryd.prog 87 [is s, is p] (ib (Lib.hasPrefix s.data.toList p.data.toList)) :=
  acall2 ⟨_, Tryd.func87, rfl, rfl⟩ (fun _ _ => rfl) fun w _ => (Tryd.strings_HasPrefix s p w).mono fun _ _ h => same_below h
theorem hasSuffix_c (s p : ByteArray) (hs : s.size ≤ 9223372036854775807) : ACall Tryd.prog 91 [is s, is p] (ib (Lib.hasSuffix s.data.toList p.data.toList)) :=
  acall2 ⟨_, Tryd.func91, rfl, rfl⟩ (fun _ _ => rfl) fun w _ => (Tryd.strings_HasSuffix s p w hs).mono fun _ _ h => same_below h
theorem contains_c (s p : ByteArray) (hs : s.size < 4294967281) : ACall Tryd.prog 85 [is s, is p] (ib (Lib.contains s.data.toList p.data.toList)) :=
  acall2 ⟨_, Tryd.func85, rfl, rfl⟩ (fun _ _ => rfl) fun w ⟨m, hm⟩ => (Tryd.strings_Contains s p m w hs hm).mono fun _ _ h => same_below h
theorem indexByte_c (s : ByteArray) (c : Int) : ACall Tryd.prog 149 [is s, ii .u8 c] (ii .i64 (Lib.indexByte s.data.toList c.toNat.toUInt8)) :=
  acall2 ⟨_, Tryd.func149, rfl, rfl⟩ (fun _ _ => rfl) fun w _ => (Tryd.strings_IndexByte s c w).mono fun _ _ h => same_below h
theorem cutPrefix_c (s p : ByteArray) : ACall Tryd.prog 146 [is s, is p] (.tup [(false, [.lit (.string ⟨(Lib.trimPrefix s.data.toList p.data.toList).toArray⟩)]), (false, [.lit (.bool (Lib.hasPrefix s.data.toList p.data.toList))])]) :=
  acall2 ⟨_, Tryd.func146, rfl, rfl⟩ (fun _ _ => ⟨_, rfl, _, _, rfl, ⟨_, _, rfl, rfl, rfl⟩, _, _, rfl, ⟨_, _, rfl, rfl, rfl⟩, rfl⟩) fun w _ => (Tryd.strings_CutPrefix s p w).mono fun _ _ h => same_below h
theorem trimPrefix_c (s p : ByteArray) : ACall Tryd.prog 92 [is s, is p] (is ⟨(Lib.trimPrefix s.data.toList p.data.toList).toArray⟩) :=
  acall2 ⟨_, Tryd.func92, rfl, rfl⟩ (fun _ _ => rfl) fun w _ => (Tryd.strings_TrimPrefix s p w).mono fun _ _ h => same_below h
theorem cut_c (s p : ByteArray) (hs : s.size < 4294967281) : ACall Tryd.prog 84 [is s, is p] (.tup [(false, [.lit (.string ⟨(Lib.cut s.data.toList p.data.toList).1.toArray⟩)]), (false, [.lit (.string ⟨(Lib.cut s.data.toList p.data.toList).2.1.toArray⟩)]), (false, [.lit (.bool (Lib.cut s.data.toList p.data.toList).2.2)])]) :=
  acall2 ⟨_, Tryd.func84, rfl, rfl⟩ (fun _ _ => ⟨_, rfl, _, _, rfl, ⟨_, _, rfl, rfl, rfl⟩, _, _, rfl, ⟨_, _, rfl, rfl, rfl⟩, _, _, rfl, ⟨_, _, rfl, rfl, rfl⟩, rfl⟩) fun w ⟨m, hm⟩ => (Tryd.strings_Cut s p m w hs hm).mono fun _ _ h => ⟨h.1, by obtain ⟨n, hn⟩ := h.2; rw [hn]; exact ⟨rfl, rfl, rfl, Nat.le_refl _, fun _ _ => rfl⟩⟩
theorem count_c (s p : ByteArray) (hs : s.size < 4294967281) (h1 : 1 ≤ p.size) : ACall Tryd.prog 90 [is s, is p] (ii .i64 (Lib.countB s p)) :=
  acall2 ⟨_, Tryd.func90, rfl, rfl⟩ (fun _ _ => rfl) fun w ⟨m, hm⟩ => (Tryd.strings_Count_any s p m w hs hm h1).mono fun _ _ h => same_below h
theorem trim_c (s : ByteArray) (c : UInt8) (hc : c.toNat < 128) (hs : s.size ≤ 9223372036854775807) : ACall Tryd.prog 86 [is s, is ⟨#[c]⟩] (is ⟨(Lib.trimB s.data.toList c).toArray⟩) :=
  acall2 ⟨_, Tryd.func86, rfl, rfl⟩ (fun _ _ => rfl) fun w _ => (Tryd.strings_Trim_one s c hc w hs).mono fun _ _ h => ⟨h.1, by rcases h.2 with h | h <;> rw [h]; exact Below.refl _ _; exact ⟨rfl, rfl, rfl, Nat.le_refl _, fun _ _ => rfl⟩⟩
theorem split_c (s p : ByteArray) (hs : s.size < 4294967281) (h1 : 1 ≤ p.size) (hc : Lib.countB s p + 1 ≤ maxLen) : ACall Tryd.prog 70 [is s, is p] (.one (.sl .str (Lib.splitB p 0 (Lib.countB s p) s))) := by
  refine ⟨⟨_, Tryd.func70, rfl, rfl⟩, fun ok w vs hg hvs => ?_⟩
  obtain ⟨v, t, rfl, hv, v2, t2, rfl, hv2, ht⟩ := hvs
  rw [show t2 = [] from ht, show v = .string s from hv, show v2 = .string p from hv2]
  obtain ⟨_, _, m, hm⟩ := hg
  refine (Tryd.strings_Split s p m w hs hm h1).mono ?_
  rintro e w' ⟨rfl, rfl⟩
  refine ⟨_, rfl, below_alloc w _, ?_⟩
  have hl := Lib.splitB_all p h1 0 (Lib.countB s p) s rfl
  rw [← hl] at hc ⊢
  refine ⟨_, _, rfl, Nat.le_refl _, hc, fun i hi => ⟨w.heap.size, 0, [.string (Lib.splitB p 0 (Lib.countB s p) s)[i]], rfl, .inr (Nat.le_refl _), by simp, ⟨rfl, fun j hj => ?_⟩, rfl⟩⟩
  obtain rfl : j = 0 := by simp only [Rd.n] at hj; omega
  have hh : (w.alloc (Obj.cells (List.map Value.string (Lib.splitB p 0 (Lib.countB s p) s)).toArray 9)).heap[w.heap.size]? = _ := heap_new w _
  simp only [World.cell?, hh]
  simp [Rd.n, hi]
theorem join_c (xs : List ByteArray) (sep : ByteArray) (hN : xs.length ≤ 140737488355328) (hlen : (Lib.join (xs.map (·.data.toList)) sep.data.toList).length ≤ 140737488355328) : ACall Tryd.prog 65 [.one (.sl .str xs), is sep] (is ⟨(Lib.join (xs.map (·.data.toList)) sep.data.toList).toArray⟩) := by
  refine ⟨⟨_, Tryd.func65, rfl, rfl⟩, fun ok w vs hg hvs => ?_⟩
  obtain ⟨v, t, rfl, ⟨a, cap, rfl, h1, h2, hc⟩, v2, t2, rfl, hv2, ht⟩ := hvs
  rw [show t2 = [] from ht, show v2 = .string sep from hv2]
  by_cases h0 : xs = []
  · subst h0
    refine (Tryd.strings_Join_none a cap sep w).mono ?_
    rintro e w' ⟨rfl, rfl⟩
    exact ⟨_, rfl, Below.refl _ _, rfl⟩
  · have hpos : 0 < xs.length := List.length_pos_iff.2 h0
    obtain ⟨b, off, _, rfl, _, hb, _⟩ := hc 0 hpos
    refine (Tryd.strings_Join b off cap xs sep w (fun j x hj => ?_) hb hN h1 hlen).mono ?_
    · obtain ⟨hjl, rfl⟩ := List.getElem?_eq_some_iff.1 hj
      obtain ⟨b', off', cs, e, _, _, hcell, hr⟩ := hc j hjl
      cases e
      have hr : cs = [.string xs[j]] := hr
      have := hcell.2 0 (by decide)
      rw [hr] at this
      simpa [Rd.n] using this
    · rintro e w' ⟨rfl, hb⟩
      exact ⟨_, rfl, hb, rfl⟩
end Ab
end Go.Proofs.YthlfbpmbkcoclaaDoor
