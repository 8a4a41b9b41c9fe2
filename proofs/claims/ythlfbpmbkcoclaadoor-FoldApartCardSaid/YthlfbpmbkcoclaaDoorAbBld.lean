/-
  strings.Builder, abstractly. Its writers at a builder that is lent to them; what is said takes at most 2^47 bytes.
-/
import Derived.Test.YthlfbpmbkcoclaaDoorAbRules
import Derived.Test.YthlfbpmbkcoclaaDoorAbTe
import Derived.Test.YthlfbpmbkcoclaaDoorBuilder
import Derived.Lib.UnsafeStr
namespace Go.Proofs.YthlfbpmbkcoclaaDoor
open Go.RowKit
namespace Ab

/-- A builder (whether it has been written to) that holds these bytes. -/
abbrev bldO (u : Bool) (xs : List Int) : Obs := [(0, .box 118 [.nself u 0, .vec 1]), (1, .vec 5 (.int .u8) xs)]

theorem setCell_grew {w : World} {b i : Nat} {v : Value} : Grew w (w.setCell ⟨b, i, none⟩ v) (some b) :=
  ⟨rfl, rfl, rfl, by simp [World.setCell], fun k _ hk => by
    simp only [World.setCell, Array.getElem?_modify]
    rw [if_neg (fun e => hk (by rw [e]))]⟩
theorem setCell_heap {w : World} {b i : Nat} {v : Value} {cs : Array Value} {T : TypeId} {fr : Nat × Nat} (h : w.heap[b]? = some (.cells cs T fr)) : (w.setCell ⟨b, i, none⟩ v).heap[b]? = some (.cells (cs.setIfInBounds i v) T fr) := by
  simp [World.setCell, Array.getElem?_modify, h]

theorem copyCheck_o (u : Bool) (xs : List Int) : ACallO Tryd.prog 116 [.one (.own 0 0)] (bldO u xs) 2 (.tup []) (bldO true xs) 2 := by
  refine ⟨⟨_, Tryd.func116, rfl, rfl⟩, fun cx ρ w vs hN hnx hw hs hvs => ?_⟩
  obtain ⟨b, cs, hρ, hh, hcs⟩ := hs.obs (0, .box 118 [.nself u 0, .vec 1]) (by simp)
  obtain ⟨p, r, rfl, hp, v, r2, rfl, hv, hr⟩ := hcs
  rw [show r2 = [] from hr] at hh
  obtain ⟨q, r3, rfl, ⟨b', hb1, hb2⟩, hr3⟩ := hvs
  rw [hρ] at hb1
  simp only [Option.some.injEq, Value.pointer.injEq, Addr.mk.injEq, and_true] at hb1
  subst hb1
  rw [show r3 = [] from hr3, hb2]
  have hh : w.heap[b]? = some (.cells #[p, v] 118 (0, 0)) := hh
  cases u with
  | true =>
    obtain ⟨b2, hb3, hb4⟩ := hp.1 rfl
    rw [hρ] at hb3
    simp only [Option.some.injEq, Value.pointer.injEq, Addr.mk.injEq, and_true] at hb3
    subst hb3
    refine (Bld.copyCheck_used b w (by simp [World.cell?, hh, hb4])).mono ?_
    rintro e w' ⟨rfl, rfl⟩
    exact ⟨_, ρ, rfl, hs, [], rfl, rfl⟩
  | false =>
    have hp : p = .pointer none := hp.2 rfl
    refine (Bld.copyCheck_fresh b w (by simp [World.cell?, hh, hp]) (by simp [World.shape?, hh]) (Lib.frozen_of_heap hh 0)).mono ?_
    rintro e w' ⟨rfl, rfl⟩
    refine ⟨_, ρ, rfl, ?_, [], rfl, rfl⟩
    have hg : getO (bldO false xs) 0 = some (.box 118 [.nself false 0, .vec 1]) := rfl
    have hk : Keeps (okOf cx ρ (bldO false xs)) (okOf cx ρ (bldO false xs)) w (w.setCell ⟨b, 0, none⟩ (.pointer (some ⟨b, 0, none⟩))) :=
      fun k hk hlt => ⟨hk, setCell_grew.block k hlt (fun e => hk.2 _ (mem_getO hg) (by rw [hρ]; exact e.symm))⟩
    have := hs.write (o' := .box 118 [.nself true 0, .vec 1]) hg (w' := w.setCell ⟨b, 0, none⟩ (.pointer (some ⟨b, 0, none⟩))) (by rw [hρ]; exact setCell_grew) (by simp [World.setCell]) ⟨b, [.pointer (some ⟨b, 0, none⟩), v], hρ, setCell_heap hh, _, _, rfl, ⟨fun _ => ⟨b, hρ, rfl⟩, fun e => by (cases e)⟩, _, _, rfl, C.kept (c := .vec 1) hk hv, rfl⟩
    exact this
set_option maxRecDepth 10000
theorem writeByte_o (u : Bool) (xs : List Int) (c : Int) (hl : xs.length + 1 ≤ 140737488355328) : ACallO Tryd.prog 161 [.one (.own 0 0), ii .u8 c] (bldO u xs) 2 (.one (.lit .nilIface)) (bldO true (xs ++ [c])) 2 := by
  refine acallo_of (rs := [4]) Tryd.func161 rfl rfl rfl teOk (by decide) rfl ?_
  refine acode_seq (acode_region ?_)
  refine acode_seq (acode_region ?_)
  refine Or.inr (Exists.intro [] (Exists.intro [0, 1] (Exists.intro _ (Exists.intro _ (Exists.intro _ (Exists.intro _ (Exists.intro _ (And.intro (copyCheck_o u xs) (And.intro rfl (And.intro (And.intro (And.intro rfl rfl) (And.intro (And.intro rfl rfl) True.intro)) (And.intro rfl ?_)))))))))))
  refine acode_seq (acode_region ?_)
  refine And.intro (by show (xs.length + 1) * 1 ≤ 140737488355328; omega) ?_
  refine acode_seq (acode_region ?_)
  refine acode_ret ?_
  exact ⟨rfl, ⟨rfl, rfl⟩, rfl⟩
theorem writeString_o (u : Bool) (xs : List Int) (t : ByteArray) (hl : xs.length + t.size ≤ 140737488355328) : ACallO Tryd.prog 81 [.one (.own 0 0), is t] (bldO u xs) 2
    (.tup [(false, [.lit (.int .i64 t.size)]), (false, [.lit .nilIface])]) (bldO true (xs ++ intsOf t)) 2 := by
  refine acallo_of (rs := [4, 5]) Tryd.func81 rfl rfl rfl teOk (by decide) rfl ?_
  refine acode_seq (acode_region ?_)
  refine acode_seq (acode_region ?_)
  refine Or.inr (Exists.intro [] (Exists.intro [0, 1] (Exists.intro _ (Exists.intro _ (Exists.intro _ (Exists.intro _ (Exists.intro _ (And.intro (copyCheck_o u xs) (And.intro rfl (And.intro (And.intro (And.intro rfl rfl) (And.intro (And.intro rfl rfl) True.intro)) (And.intro rfl ?_)))))))))))
  refine acode_seq (acode_region ?_)
  refine And.intro hl ?_
  refine acode_seq (acode_region ?_)
  refine acode_ret ?_
  exact ⟨rfl, ⟨rfl, rfl⟩, rfl⟩
end Ab
end Go.Proofs.YthlfbpmbkcoclaaDoor
