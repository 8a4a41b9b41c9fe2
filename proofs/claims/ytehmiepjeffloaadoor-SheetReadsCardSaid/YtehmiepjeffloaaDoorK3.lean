/-
  The texts of this proof, joined: abstract values, the library, the functions of the program and what they compute (part 3). No condition.
-/
import Derived.Test.YtehmiepjeffloaaDoorRows
import Derived.Lib.Strings
import Derived.Lib.Slices
import Derived.Lib.Walk
import Derived.Lib.Builder
import Derived.Lib.AppendStr
import Derived.Lib.OthersKept
import Derived.WalkKit
import Derived.Laws.Externs
import Derived.Laws.IdiomCopy
import Derived.Lib.UnsafeStr
import Derived.Shelf.RegionOpenPlain
import Derived.Shelf.Strings.Builder1
import Derived.Shelf.Strings.Builder2
import Derived.Shelf.Strings.OnBuilder
import Derived.Shelf.Small.Utf8
import Derived.Shelf.Small.Strs
import Derived.Shelf.Strings.BuilderF
import Derived.Shelf.Strings.BuilderK
import Derived.Shelf.Strings.Builder2Cap
import Derived.Shelf.Strings.Search1
import Derived.Shelf.Strings.Search2
import Derived.Shelf.Strings.Search3
import Derived.Shelf.Strings.Cut
import Derived.Shelf.Strings.Count
import Derived.Shelf.LaysM
import Derived.Shelf.Strings.Shaped
import Derived.Shelf.Strings.Prefix
import Derived.Shelf.Strings.Split
import Derived.Shelf.Strings.Replace
import Derived.Shelf.Strings.SplitShaped
import Derived.Shelf.Strings.Runes
import Derived.Shelf.Strings.IndexAny
import Derived.Shelf.Strings.AsciiSet
import Derived.Shelf.Strings.IndexAnyAll
import Derived.Shelf.Unicode.DecodeSlow
import Derived.Shelf.Strings.BuilderCap
import Derived.Test.YtehmiepjeffloaaDoorProg
import Derived.Lib.SplitLaws
import Derived.Shelf.Strings.SlTrimAscii
import Derived.Lib.Join
import Derived.Lib.SlTrimSet
import Derived.Laws.RangeAny
import Derived.Laws.Runes
import Derived.Lib.DecodeN
import Derived.Shelf.Strings.Trim
import Derived.Lib.Replace
import Derived.Lib.ReplaceLaws
import Derived.Test.YtehmiepjeffloaaDoorK1
import Derived.Test.YtehmiepjeffloaaDoorK2
namespace Go.Proofs.YtehmiepjeffloaaDoor
open Go.RowKit
namespace Ab
def ty9 : TyI := ⟨.str, 1, 16, [.string ⟨#[]⟩], some ⟨_, .str⟩, true⟩
theorem tyOk9 : TyOk Tryd.prog 9 ty9 := tyOk_of (by kernel_rfl) Tryd.underlying9 rfl (by decide) rfl (fun _ _ h => by cases h; rfl) (fun _ => by kernel_rfl)
def ty3 : TyI := ⟨.int .i64, 1, 8, [.int .i64 0], some ⟨_, (.int .i64)⟩, true⟩
theorem tyOk3 : TyOk Tryd.prog 3 ty3 := tyOk_of (by kernel_rfl) Tryd.underlying3 rfl (by decide) rfl (fun _ _ h => by cases h; rfl) (fun _ => by kernel_rfl)
def ty24 : TyI := ⟨.slice 9, 1, 24, [.slice none 0 0], some ⟨_, (.sl .str)⟩, false⟩
theorem tyOk24 : TyOk Tryd.prog 24 ty24 := tyOk_of (by kernel_rfl) Tryd.underlying24 rfl (by decide) rfl (fun _ _ h => by cases h; rfl) (fun h => by cases h)
def ty22 : TyI := ⟨.slice 24, 1, 24, [.slice none 0 0], some ⟨_, (.sl (.sl .str))⟩, false⟩
theorem tyOk22 : TyOk Tryd.prog 22 ty22 := tyOk_of (by kernel_rfl) Tryd.underlying22 rfl (by decide) rfl (fun _ _ h => by cases h; rfl) (fun h => by cases h)
def ty5 : TyI := ⟨.int .u8, 1, 1, [.int .u8 0], some ⟨_, (.int .u8)⟩, true⟩
theorem tyOk5 : TyOk Tryd.prog 5 ty5 := tyOk_of (by kernel_rfl) Tryd.underlying5 rfl (by decide) rfl (fun _ _ h => by cases h; rfl) (fun _ => by kernel_rfl)
def ty21 : TyI := ⟨.int .i32, 1, 4, [.int .i32 0], some ⟨_, (.int .i32)⟩, true⟩
theorem tyOk21 : TyOk Tryd.prog 21 ty21 := tyOk_of (by kernel_rfl) Tryd.underlying21 rfl (by decide) rfl (fun _ _ h => by cases h; rfl) (fun _ => by kernel_rfl)
def ty49 : TyI := ⟨.struct [(0, 46), (1, 47)], 2, 32, [.pointer none, .slice none 0 0], none, false⟩
theorem tyOk49 : TyOk Tryd.prog 49 ty49 := tyOk_of (by kernel_rfl) ⟨by kernel_rfl, by kernel_rfl, by kernel_rfl, by kernel_rfl, by kernel_rfl⟩ rfl (by decide) rfl (fun _ _ h => by cases h) (fun h => by cases h)
def ty4 : TyI := ⟨.bool, 1, 1, [.bool false], some ⟨_, .bool⟩, true⟩
theorem tyOk4 : TyOk Tryd.prog 4 ty4 := tyOk_of (by kernel_rfl) Tryd.underlying4 rfl (by decide) rfl (fun _ _ h => by cases h; rfl) (fun _ => by kernel_rfl)
def ty26 : TyI := ⟨.iface, 1, 16, [.nilIface], some ⟨_, .raw⟩, false⟩
theorem tyOk26 : TyOk Tryd.prog 26 ty26 := tyOk_of (by kernel_rfl) ⟨_, Tryd.underlying26⟩ rfl (by decide) rfl (fun _ _ h => by cases h; rfl) (fun h => by cases h)
def ty47 : TyI := ⟨.slice 5, 1, 24, [.slice none 0 0], some ⟨_, (.sl (.int .u8))⟩, false⟩
theorem tyOk47 : TyOk Tryd.prog 47 ty47 := tyOk_of (by kernel_rfl) Tryd.underlying47 rfl (by decide) rfl (fun _ _ h => by cases h; rfl) (fun h => by cases h)
def ty104 : TyI := ⟨.int .u32, 1, 4, [.int .u32 0], some ⟨_, (.int .u32)⟩, true⟩
theorem tyOk104 : TyOk Tryd.prog 104 ty104 := tyOk_of (by kernel_rfl) Tryd.underlying104 rfl (by decide) rfl (fun _ _ h => by cases h; rfl) (fun _ => by kernel_rfl)
def ty63 : TyI := ⟨.slice 66, 1, 24, [.slice none 0 0], some ⟨_, (.sl (.st .str .str))⟩, false⟩
theorem tyOk63 : TyOk Tryd.prog 63 ty63 := tyOk_of (by kernel_rfl) Tryd.underlying63 rfl (by decide) rfl (fun _ _ h => by cases h; rfl) (fun h => by cases h)
def ty36 : TyI := ⟨.slice 63, 1, 24, [.slice none 0 0], some ⟨_, (.sl (.sl (.st .str .str)))⟩, false⟩
theorem tyOk36 : TyOk Tryd.prog 36 ty36 := tyOk_of (by kernel_rfl) Tryd.underlying36 rfl (by decide) rfl (fun _ _ h => by cases h; rfl) (fun h => by cases h)
def ty32 : TyI := ⟨.int .i64, 1, 8, [.int .i64 0], some ⟨_, (.int .i64)⟩, true⟩
theorem tyOk32 : TyOk Tryd.prog 32 ty32 := tyOk_of (by kernel_rfl) Tryd.underlying32 rfl (by decide) rfl (fun _ _ h => by cases h; rfl) (fun _ => by kernel_rfl)
def ty46 : TyI := ⟨.ptr 49, 1, 8, [.pointer none], none, false⟩
theorem tyOk46 : TyOk Tryd.prog 46 ty46 := tyOk_of (by kernel_rfl) Tryd.underlying46 rfl (by decide) rfl (fun _ _ h => by cases h) (fun h => by cases h)
def ty109 : TyI := ⟨.struct [(0, 5), (1, 5)], 2, 2, [.int .u8 0, .int .u8 0], some ⟨_, (.st (.int .u8) (.int .u8))⟩, true⟩
theorem tyOk109 : TyOk Tryd.prog 109 ty109 := tyOk_of (by kernel_rfl) ⟨by kernel_rfl, by kernel_rfl, by kernel_rfl, by kernel_rfl, by kernel_rfl⟩ rfl (by decide) rfl (fun _ _ h => by cases h; rfl) (fun _ => by kernel_rfl)
def ty62 : TyI := ⟨.struct [(0, 3), (1, 26)], 2, 24, [.int .i64 0, .nilIface], some ⟨_, (.st (.int .i64) .raw)⟩, false⟩
theorem tyOk62 : TyOk Tryd.prog 62 ty62 := tyOk_of (by kernel_rfl) ⟨by kernel_rfl, by kernel_rfl, by kernel_rfl, by kernel_rfl, by kernel_rfl⟩ rfl (by decide) rfl (fun _ _ h => by cases h; rfl) (fun h => by cases h)
def ty60 : TyI := ⟨.ptr 62, 1, 8, [.pointer none], none, false⟩
theorem tyOk60 : TyOk Tryd.prog 60 ty60 := tyOk_of (by kernel_rfl) Tryd.underlying60 rfl (by decide) rfl (fun _ _ h => by cases h) (fun h => by cases h)
def ty66 : TyI := ⟨.struct [(0, 9), (1, 9)], 2, 32, [.string ⟨#[]⟩, .string ⟨#[]⟩], some ⟨_, (.st .str .str)⟩, true⟩
theorem tyOk66 : TyOk Tryd.prog 66 ty66 := tyOk_of (by kernel_rfl) ⟨by kernel_rfl, by kernel_rfl, by kernel_rfl, by kernel_rfl, by kernel_rfl⟩ rfl (by decide) rfl (fun _ _ h => by cases h; rfl) (fun _ => by kernel_rfl)
def ty55 : TyI := ⟨.other, 1, 8, [.nilFunc], none, false⟩
theorem tyOk55 : TyOk Tryd.prog 55 ty55 := tyOk_of (by kernel_rfl) ⟨_, Tryd.underlying55, trivial⟩ rfl (by decide) rfl (fun _ _ h => by cases h) (fun h => by cases h)
def ty45 : TyI := ⟨.other, 1, 8, [.nilFunc], none, false⟩
theorem tyOk45 : TyOk Tryd.prog 45 ty45 := tyOk_of (by kernel_rfl) ⟨_, Tryd.underlying45, trivial⟩ rfl (by decide) rfl (fun _ _ h => by cases h) (fun h => by cases h)
def ty72 : TyI := ⟨.other, 1, 8, [.nilFunc], none, false⟩
theorem tyOk72 : TyOk Tryd.prog 72 ty72 := tyOk_of (by kernel_rfl) ⟨_, Tryd.underlying72, trivial⟩ rfl (by decide) rfl (fun _ _ h => by cases h) (fun h => by cases h)
def ty74 : TyI := ⟨.ptr 5, 1, 8, [.pointer none], none, false⟩
theorem tyOk74 : TyOk Tryd.prog 74 ty74 := tyOk_of (by kernel_rfl) Tryd.underlying74 rfl (by decide) rfl (fun _ _ h => by cases h) (fun h => by cases h)
def te : List (TypeId × TyI) := [(9, ty9), (3, ty3), (24, ty24), (22, ty22), (5, ty5), (21, ty21), (49, ty49), (4, ty4), (26, ty26), (47, ty47), (104, ty104), (63, ty63), (36, ty36), (32, ty32), (46, ty46), (109, ty109), (62, ty62), (60, ty60), (66, ty66), (55, ty55), (45, ty45), (72, ty72), (74, ty74)]
theorem teOk : TEok Tryd.prog te := by
  intro p hp
  simp only [te, List.mem_cons, List.not_mem_nil, or_false] at hp
  rcases hp with rfl | rfl | rfl | rfl | rfl | rfl | rfl | rfl | rfl | rfl | rfl | rfl | rfl | rfl | rfl | rfl | rfl | rfl | rfl | rfl | rfl | rfl | rfl
  · exact tyOk9
  · exact tyOk3
  · exact tyOk24
  · exact tyOk22
  · exact tyOk5
  · exact tyOk21
  · exact tyOk49
  · exact tyOk4
  · exact tyOk26
  · exact tyOk47
  · exact tyOk104
  · exact tyOk63
  · exact tyOk36
  · exact tyOk32
  · exact tyOk46
  · exact tyOk109
  · exact tyOk62
  · exact tyOk60
  · exact tyOk66
  · exact tyOk55
  · exact tyOk45
  · exact tyOk72
  · exact tyOk74
end Ab
end Go.Proofs.YtehmiepjeffloaaDoor
namespace Go.Proofs.YtehmiepjeffloaaDoor
open Go.RowKit
namespace Bld
set_option maxRecDepth 100000
set_option maxHeartbeats 1000000
abbrev IsB (B b : Nat) (bs : List Value) (w : World) : Prop := Lib.IsBuilder 49 5 B b bs w
theorem sizeBuilder : (Tryd.prog.info? 49).map (·.size) = some 2 := by kernel_rfl
theorem liesBuilder : liesAt Tryd.prog Tryd.prog.depth 49 (2 / Tryd.prog.cellsOf 49) 0 49 1 = true := by kernel_rfl
theorem infoByte : (Tryd.prog.info? 5).map (fun i => (i.zero, i.size, i.bytes)) = some (some (.int .u8 0), 1, 1) := by kernel_rfl
theorem copyCheck_used (b : Nat) (w : World) (h0 : w.cell? ⟨b, 0, none⟩ = some (.pointer (some ⟨b, 0, none⟩))) :
    Calls Tryd.prog 30 #[.pointer (some ⟨b, 0, none⟩)] w fun e w' => e = .returned (.tuple #[]) ∧ w' = w := by
  obtain ⟨j, hj, _⟩ := Option.map_eq_some_iff.1 sizeBuilder
  go_enter Tryd.func30, Tryd.ntmps30
  go_wp2
  rw [Lib.run_neq_ptr_same w _ Tryd.underlying46 hj]
  go_wp2
  go_end0
  exact ⟨rfl, rfl⟩
theorem copyCheck_fresh (b : Nat) (w : World) (h0 : w.cell? ⟨b, 0, none⟩ = some (.pointer none)) (hsh : w.shape? b = some (49, 2)) (hfz : w.frozen? ⟨b, 0, none⟩ = false) :
    Calls Tryd.prog 30 #[.pointer (some ⟨b, 0, none⟩)] w fun e w' => e = .returned (.tuple #[]) ∧ w' = w.setCell ⟨b, 0, none⟩ (.pointer (some ⟨b, 0, none⟩)) := by
  obtain ⟨j, hj, hjs⟩ := Option.map_eq_some_iff.1 sizeBuilder
  go_enter Tryd.func30, Tryd.ntmps30
  go_wp2
  rw [Lib.run_to_unsafe w ⟨b, 0, none⟩ Tryd.underlying46 Tryd.underlying79 hj (by rw [hjs]; decide) hsh (Nat.zero_lt_succ 1)]
  simp only [Result.andThen]
  rw [Oper.upon_value]
  go_wp2
  rw [run_callFunc_extern Tryd.func41 (by kernel_rfl) (by kernel_rfl) (by kernel_rfl) (e := Extern.AbiNoEscape.same) (by kernel_rfl)]
  rw [Lib.run_noEscape]
  simp only [Result.andThen]
  rw [Oper.upon_value]
  go_wp2
  rw [Lib.run_from_unsafe w ⟨b, 0, none⟩ Tryd.underlying79 Tryd.underlying46 hj hsh liesBuilder]
  simp only [Result.andThen]
  rw [Oper.upon_value]
  go_wp2
  go_end0
  exact ⟨rfl, rfl⟩
end Bld
end Go.Proofs.YtehmiepjeffloaaDoor
namespace Go.Proofs.YtehmiepjeffloaaDoor
open Go.RowKit
namespace Ab
abbrev bldO (u : Bool) (xs : List Int) : Obs := [(0, .box 49 [.nself u 0, .vec 1]), (1, .vec 5 (.int .u8) xs)]
theorem setCell_grew {w : World} {b i : Nat} {v : Value} : Grew w (w.setCell ⟨b, i, none⟩ v) (some b) :=
  ⟨rfl, rfl, rfl, by simp [World.setCell], fun k _ hk => by
    simp only [World.setCell, Array.getElem?_modify]
    rw [if_neg (fun e => hk (by rw [e]))]⟩
theorem setCell_heap {w : World} {b i : Nat} {v : Value} {cs : Array Value} {T : TypeId} {fr : Nat × Nat} (h : w.heap[b]? = some (.cells cs T fr)) : (w.setCell ⟨b, i, none⟩ v).heap[b]? = some (.cells (cs.setIfInBounds i v) T fr) := by
  simp [World.setCell, Array.getElem?_modify, h]
theorem copyCheck_o (u : Bool) (xs : List Int) : ACallO Tryd.prog 30 [.one (.own 0 0)] (bldO u xs) 2 (.tup []) (bldO true xs) 2 := by
  refine ⟨⟨_, Tryd.func30, rfl, rfl⟩, fun cx ρ w vs hN hnx hw hs hvs => ?_⟩
  obtain ⟨b, cs, hρ, hh, hcs⟩ := hs.obs (0, .box 49 [.nself u 0, .vec 1]) (by simp)
  obtain ⟨p, r, rfl, hp, v, r2, rfl, hv, hr⟩ := hcs
  rw [show r2 = [] from hr] at hh
  obtain ⟨q, r3, rfl, ⟨b', hb1, hb2⟩, hr3⟩ := hvs
  rw [hρ] at hb1
  simp only [Option.some.injEq, Value.pointer.injEq, Addr.mk.injEq, and_true] at hb1
  subst hb1
  rw [show r3 = [] from hr3, hb2]
  have hh : w.heap[b]? = some (.cells #[p, v] 49 (0, 0)) := hh
  cases u with
  | true =>
    obtain ⟨b2, hb3, hb4⟩ := hp.1 rfl
    rw [hρ] at hb3
    simp only [Option.some.injEq, Value.pointer.injEq, Addr.mk.injEq, and_true] at hb3
    subst hb3
    refine (Bld.copyCheck_used b w (by simp [World.cell?, hh, hb4])).mono ?_
    rintro e w' ⟨rfl, rfl⟩
    exact ⟨_, ρ, rfl, hs, [], rfl, rfl⟩
  | false =>
    have hp : p = .pointer none := hp.2 rfl
    refine (Bld.copyCheck_fresh b w (by simp [World.cell?, hh, hp]) (by simp [World.shape?, hh]) (Lib.frozen_of_heap hh 0)).mono ?_
    rintro e w' ⟨rfl, rfl⟩
    refine ⟨_, ρ, rfl, ?_, [], rfl, rfl⟩
    have hg : getO (bldO false xs) 0 = some (.box 49 [.nself false 0, .vec 1]) := rfl
    have hk : Keeps (okOf cx ρ (bldO false xs)) (okOf cx ρ (bldO false xs)) w (w.setCell ⟨b, 0, none⟩ (.pointer (some ⟨b, 0, none⟩))) :=
      fun _ k hk hlt => ⟨hk, setCell_grew.block k hlt (fun e => hk.2 _ (mem_getO hg) (by rw [hρ]; exact e.symm))⟩
    have := hs.write (o' := .box 49 [.nself true 0, .vec 1]) hg (w' := w.setCell ⟨b, 0, none⟩ (.pointer (some ⟨b, 0, none⟩))) (by rw [hρ]; exact setCell_grew) (by simp [World.setCell]) ⟨b, [.pointer (some ⟨b, 0, none⟩), v], hρ, setCell_heap hh, _, _, rfl, ⟨fun _ => ⟨b, hρ, rfl⟩, fun e => by (cases e)⟩, _, _, rfl, C.kept (c := .vec 1) hk hv, rfl⟩
    exact this
set_option maxRecDepth 10000
theorem writeString_o (u : Bool) (xs : List Int) (t : ByteArray) (hl : xs.length + t.size ≤ 140737488355328) : ACallO Tryd.prog 19 [.one (.own 0 0), is t] (bldO u xs) 2
    (.tup [(false, [.lit (.int .i64 t.size)]), (false, [.lit .nilIface])]) (bldO true (xs ++ intsOf t)) 2 := by
  refine acallo_of (rs := [4, 5]) Tryd.func19 rfl rfl rfl teOk (by decide) rfl ?_
  refine acode_seq (acode_region ?_)
  refine acode_seq (acode_region ?_)
  refine Or.inr (Or.inl (Exists.intro [] (Exists.intro [0, 1] (Exists.intro _ (Exists.intro _ (Exists.intro _ (Exists.intro _ (Exists.intro _ (And.intro (copyCheck_o u xs) (And.intro rfl (And.intro (And.intro (And.intro rfl rfl) (And.intro (And.intro rfl rfl) True.intro)) (And.intro rfl ?_))))))))))))
  refine acode_seq (acode_region ?_)
  refine And.intro hl ?_
  refine acode_seq (acode_region ?_)
  refine acode_ret ?_
  exact ⟨rfl, ⟨rfl, rfl⟩, rfl⟩
end Ab
end Go.Proofs.YtehmiepjeffloaaDoor
namespace Go.Proofs.YtehmiepjeffloaaDoor
open Go.RowKit
namespace Ab
theorem grew_freeze {w w' : World} {g n : Nat} (h : Grew w w' (some g)) : Grew w (w'.freeze ⟨g, 0, none⟩ n) (some g) := by
  unfold World.freeze
  split
  · exact h
  · exact ⟨h.os, h.tape, h.output, by simpa using h.size, fun k hk hg => by
      simp only [Array.getElem?_modify]
      rw [if_neg (fun e => hg (by rw [e]))]
      exact h.block k hk hg⟩
theorem grew_drew {w : World} {r : Option Nat} : Grew w w.drew r := ⟨rfl, rfl, rfl, Nat.le_refl _, fun _ _ _ => rfl⟩
theorem grew_alloc {w : World} {o : Obj} {r : Option Nat} : Grew w (w.drew.alloc o) r := ⟨rfl, rfl, rfl, by simp, fun k hk _ => Lib.alloc_old w.drew _ k hk⟩
set_option maxRecDepth 100000
set_option maxHeartbeats 2000000
theorem string_some (b g cap : Nat) (cur : Array Value) (p : Value) (l : List UInt8) (w : World) (h0 : l ≠ []) (hbk : w.heap[b]? = some (.cells #[p, .slice (some ⟨g, 0, none⟩) l.length cap] 49 (0, 0)))
    (hg : w.heap[g]? = some (.cells cur 5 (0, 0))) (hnc : l.length ≤ cap) (hcm : cap ≤ maxLen) (hcs : cur.size = cap * 1) (hown : w.ownsRow 0 5 1 (.slice (some ⟨g, 0, none⟩) l.length cap) l.length (Lib.byteCells l)) :
    Calls Tryd.prog 21 #[.pointer (some ⟨b, 0, none⟩)] w fun e w' => e = .returned (.string ⟨l.toArray⟩) ∧ Grew w w' (some g) := by
  have hl0 : l.length ≠ 0 := by simpa using h0
  have c1 : w.drew.cell? ⟨b, 1, none⟩ = some (.slice (some ⟨g, 0, none⟩) l.length cap) := by
    have : w.drew.heap[b]? = some (.cells #[p, .slice (some ⟨g, 0, none⟩) l.length cap] 49 (0, 0)) := hbk
    rw [Lib.cell_of_heap this]; rfl
  have hSD : (Builtin.unsafeSliceData_ #[47] 74 #[.slice (some ⟨g, 0, none⟩) l.length cap]).run Tryd.prog w.drew = .ok (.pointer (some ⟨g, 0, none⟩)) w.drew :=
    Lib.run_unsafeSliceData_row _ _ _ _ _ _ (by omega)
  have hUS : (Builtin.unsafeString_ #[74, 3] 9 #[.pointer (some ⟨g, 0, none⟩), .int .i64 l.length]).run Tryd.prog w.drew = .ok (.string ⟨l.toArray⟩) (w.drew.freeze ⟨g, 0, none⟩ l.length) := by
    refine Lib.run_unsafeString_row w.drew 74 3 9 5 Tryd.underlying74 (by kernel_rfl) g cur.size (by have hg' : w.drew.heap[g]? = some (.cells cur 5 (0, 0)) := hg; simp [World.shape?, hg']) l h0 (by omega) (by unfold maxLen at hcm; omega) ?_
    intro j x hx
    have := hown.cells (g := g) rfl j (.int .u8 x.toNat) (by simp [Lib.byteCells, hx])
    exact this
  have mixed : Tryd.prog.follows .mixedOrders = true := by kernel_rfl
  go_enter Tryd.func21, Tryd.ntmps21
  go_wp2
  go_region_o
  all_goals (go_wp2; go_ret; exact ⟨rfl, grew_freeze grew_drew⟩)
theorem string_nil (b : Nat) (p : Value) (w : World) (hbk : w.heap[b]? = some (.cells #[p, .slice none 0 0] 49 (0, 0))) :
    Calls Tryd.prog 21 #[.pointer (some ⟨b, 0, none⟩)] w fun e w' => e = .returned (.string ⟨#[]⟩) ∧ Grew w w' none := by
  have hUS : ∀ (W : World) (q : Option Addr), (Builtin.unsafeString_ #[74, 3] 9 #[.pointer q, .int .i64 0]).run Tryd.prog W = .ok (.string .empty) W := fun W q => Lib.run_unsafeString_none W _ _ _ q
  have c1 : w.drew.cell? ⟨b, 1, none⟩ = some (.slice none 0 0) := by
    have : w.drew.heap[b]? = some (.cells #[p, .slice none 0 0] 49 (0, 0)) := hbk
    rw [Lib.cell_of_heap this]; rfl
  have hSD : (Builtin.unsafeSliceData_ #[47] 74 #[.slice none 0 0]).run Tryd.prog w.drew = .ok (.pointer none) w.drew := rfl
  have mixed : Tryd.prog.follows .mixedOrders = true := by kernel_rfl
  go_enter Tryd.func21, Tryd.ntmps21
  go_wp2
  go_region_o
  all_goals (go_wp2; go_ret; exact ⟨rfl, grew_drew⟩)
theorem string_noroom (b g : Nat) (p : Value) (cur : Array Value) (w : World) (hbk : w.heap[b]? = some (.cells #[p, .slice (some ⟨g, 0, none⟩) 0 0] 49 (0, 0))) (hg : w.heap[g]? = some (.cells cur 5 (0, 0))) :
    Calls Tryd.prog 21 #[.pointer (some ⟨b, 0, none⟩)] w fun e w' => e = .returned (.string ⟨#[]⟩) ∧ Grew w w' (some g) := by
  have hUS : ∀ (W : World) (q : Option Addr), (Builtin.unsafeString_ #[74, 3] 9 #[.pointer q, .int .i64 0]).run Tryd.prog W = .ok (.string .empty) W := fun W q => Lib.run_unsafeString_none W _ _ _ q
  have hlt : b < w.heap.size := (Array.getElem?_eq_some_iff.1 hbk).1
  have c1 : w.drew.cell? ⟨b, 1, none⟩ = some (.slice (some ⟨g, 0, none⟩) 0 0) := by
    have : w.drew.heap[b]? = some (.cells #[p, .slice (some ⟨g, 0, none⟩) 0 0] 49 (0, 0)) := hbk
    rw [Lib.cell_of_heap this]; rfl
  have hSD : (Builtin.unsafeSliceData_ #[47] 74 #[.slice (some ⟨g, 0, none⟩) 0 0]).run Tryd.prog w.drew = .ok (.pointer (some ⟨w.drew.heap.size, 0, none⟩)) (w.drew.alloc (.view ⟨g, 0, none⟩ 5)) :=
    Lib.run_unsafeSliceData_zero w.drew _ _ 5 Tryd.underlying74 ⟨g, 0, none⟩ 0 (5, cur.size) (by have hg' : w.drew.heap[g]? = some (.cells cur 5 (0, 0)) := hg; simp [World.shape?, hg'])
  have c2 : (w.drew.alloc (.view ⟨g, 0, none⟩ 5)).cell? ⟨b, 1, none⟩ = some (.slice (some ⟨g, 0, none⟩) 0 0) := by
    have : (w.drew.alloc (.view ⟨g, 0, none⟩ 5)).heap[b]? = _ := (Lib.alloc_old w.drew _ b hlt).trans hbk
    rw [Lib.cell_of_heap this]; rfl
  have c3 : (w.alloc (.view ⟨g, 0, none⟩ 5)).drew.cell? ⟨b, 1, none⟩ = some (.slice (some ⟨g, 0, none⟩) 0 0) := c2
  have c0 : w.cell? ⟨b, 1, none⟩ = some (.slice (some ⟨g, 0, none⟩) 0 0) := c1
  have mixed : Tryd.prog.follows .mixedOrders = true := by kernel_rfl
  go_enter Tryd.func21, Tryd.ntmps21
  go_wp2
  go_region_o
  all_goals (go_wp2; go_ret; exact ⟨rfl, grew_alloc⟩)
theorem string_room (b g cap : Nat) (p : Value) (w : World) (hc0 : cap ≠ 0) (hbk : w.heap[b]? = some (.cells #[p, .slice (some ⟨g, 0, none⟩) 0 cap] 49 (0, 0))) :
    Calls Tryd.prog 21 #[.pointer (some ⟨b, 0, none⟩)] w fun e w' => e = .returned (.string ⟨#[]⟩) ∧ Grew w w' (some g) := by
  have hUS : ∀ (W : World) (q : Option Addr), (Builtin.unsafeString_ #[74, 3] 9 #[.pointer q, .int .i64 0]).run Tryd.prog W = .ok (.string .empty) W := fun W q => Lib.run_unsafeString_none W _ _ _ q
  have c1 : w.drew.cell? ⟨b, 1, none⟩ = some (.slice (some ⟨g, 0, none⟩) 0 cap) := by
    have : w.drew.heap[b]? = some (.cells #[p, .slice (some ⟨g, 0, none⟩) 0 cap] 49 (0, 0)) := hbk
    rw [Lib.cell_of_heap this]; rfl
  have hSD : (Builtin.unsafeSliceData_ #[47] 74 #[.slice (some ⟨g, 0, none⟩) 0 cap]).run Tryd.prog w.drew = .ok (.pointer (some ⟨g, 0, none⟩)) w.drew :=
    Lib.run_unsafeSliceData_row _ _ _ _ _ _ hc0
  clear hc0
  have mixed : Tryd.prog.follows .mixedOrders = true := by kernel_rfl
  go_enter Tryd.func21, Tryd.ntmps21
  go_wp2
  go_region_o
  all_goals (go_wp2; go_ret; exact ⟨rfl, grew_drew⟩)
end Ab
end Go.Proofs.YtehmiepjeffloaaDoor
namespace Go.Proofs.YtehmiepjeffloaaDoor
open Go.RowKit
namespace Ab
theorem string_calls (b : Nat) (p v : Value) (s : ByteArray) (w : World) (hbk : w.heap[b]? = some (.cells #[p, v] 49 (0, 0))) (hown : w.ownsRow 0 5 1 v s.size (Lib.strCells s)) :
    Calls Tryd.prog 21 #[.pointer (some ⟨b, 0, none⟩)] w fun e w' => e = .returned (.string s) ∧ Grew w w' (blk (some v)) := by
  have hs : s = ⟨s.data.toList.toArray⟩ := by cases s; simp
  have hsz : s.size = s.data.toList.length := by cases s; rfl
  rcases hown.2 with ⟨rfl, hz⟩ | ⟨g, cap, cur, rfl, _, hg, hnc, hcm, hcs, htake⟩
  · have hl : s.data.toList = [] := List.eq_nil_of_length_eq_zero (by rw [← hsz]; exact hz)
    rw [hl] at hs
    refine (string_nil b p w hbk).mono ?_
    rintro e w' ⟨rfl, h⟩
    exact ⟨by rw [hs], h⟩
  · by_cases h0 : s.size = 0
    · have hl : s.data.toList = [] := List.eq_nil_of_length_eq_zero (by rw [← hsz]; exact h0)
      rw [hl] at hs
      rw [h0] at hbk
      by_cases hc : cap = 0
      · subst hc
        refine (string_noroom b g p cur w hbk hg).mono ?_
        rintro e w' ⟨rfl, h⟩
        exact ⟨by rw [hs], h⟩
      · refine (string_room b g cap p w hc hbk).mono ?_
        rintro e w' ⟨rfl, h⟩
        exact ⟨by rw [hs], h⟩
    · rw [hsz] at hbk hnc hown
      refine (string_some b g cap cur p s.data.toList w (fun e => h0 (by rw [hsz, e]; rfl)) hbk hg hnc hcm hcs hown).mono ?_
      rintro e w' ⟨rfl, h⟩
      exact ⟨by rw [← hs], h⟩
theorem string_o (u : Bool) (s : ByteArray) : ACallO Tryd.prog 21 [.one (.own 0 0)] (bldO u (intsOf s)) 2 (is s) [] 2 := by
  refine ⟨⟨_, Tryd.func21, rfl, rfl⟩, fun cx ρ w vs hN hnx hw hs hvs => ?_⟩
  obtain ⟨b, cs, hρ, hh, hcs⟩ := hs.obs (0, .box 49 [.nself u 0, .vec 1]) (by simp)
  obtain ⟨p, r, rfl, hp, v, r2, rfl, hv, hr⟩ := hcs
  rw [show r2 = [] from hr] at hh
  obtain ⟨q, r3, rfl, ⟨b', hb1, hb2⟩, hr3⟩ := hvs
  rw [hρ] at hb1
  simp only [Option.some.injEq, Value.pointer.injEq, Addr.mk.injEq, and_true] at hb1
  subst hb1
  rw [show r3 = [] from hr3, hb2]
  have hh : w.heap[b]? = some (.cells #[p, v] 49 (0, 0)) := hh
  obtain ⟨v', hv', css, h1, h2, h3⟩ := hs.obs (1, .vec 5 (.int .u8) (intsOf s)) (by simp)
  have hv1 : ρ 1 = some v := hv.1
  rw [show ρ 1 = some v' from hv'] at hv1
  obtain rfl := Option.some.inj hv1
  have hc : css = (intsOf s).map fun n => [Value.int .u8 n] := by
    apply List.ext_getElem
    · simp [h1]
    · intro i hi hi'
      have hlt : i < (intsOf s).length := by rw [← h1]; exact hi
      have h4 : css.getD i [] = [.int .u8 (intsOf s)[i]] := h2 i hlt
      simp only [List.getD, List.getElem?_eq_getElem hi, Option.getD_some] at h4
      rw [h4, List.getElem_map]
  have hown : w.ownsRow 0 5 1 v' s.size (Lib.strCells s) := by
    rw [← flat_ints, ← hc, ← intsOf_length]
    exact h3
  refine (string_calls b p v' s w hh hown).mono ?_
  rintro e w' ⟨rfl, hg⟩
  refine ⟨_, ρ, rfl, ⟨hs.size, DefOk.none hN.2.2, fun _ => trivial, fun p hp => by (cases hp), List.nodup_nil, fun p hp => by (cases hp), hs.names, hs.nx0, fun p hp => by (cases hp), fun p hp => by (cases hp), ?_, hs.disj, hs.pin, hs.glob⟩, rfl⟩
  refine ⟨by rw [hw]; exact hg.os, by rw [hw]; exact hg.tape, by rw [hw]; exact hg.output, by rw [hw]; exact hg.size, fun k hk hno => ?_⟩
  rw [hw] at hk ⊢
  refine hg.block k hk fun e => ?_
  rcases (hs.low (1, .vec 5 (.int .u8) (intsOf s)) (by simp) k (by rw [show ρ 1 = some v' from hv']; exact e.symm)).2 with h4 | h4
  · rw [hw] at h4; omega
  · exact hno h4
end Ab
end Go.Proofs.YtehmiepjeffloaaDoor
namespace Go.Proofs
open Go.Shelf
def Tryd.lays169_ren : Go.Shelf.Ren := ⟨fun | 169 => 21 | n => n, fun | 70 => 46 | 9 => 9 | 0 => 0 | 72 => 49 | 37 => 47 | 127 => 74 | 3 => 3 | 5 => 5 | n => n, fun | n => n⟩
theorem Tryd.lays169 : Go.Proofs.Lays.n169 Tryd.prog Tryd.lays169_ren := {
  mixed := by kernel_rfl
  f169 := Tryd.func21.trans (congrArg some (by kernel_rfl))
  t0 := Tryd.underlying0
  a0 := Tryd.isAgg0
  z0 := Tryd.sizeOf0
  v0 := Tryd.zeroValue0
  t3 := Tryd.underlying3
  a3 := Tryd.isAgg3
  z3 := Tryd.sizeOf3
  v3 := Tryd.zeroValue3
  t9 := Tryd.underlying9
  a9 := Tryd.isAgg9
  z9 := Tryd.sizeOf9
  v9 := Tryd.zeroValue9
  t37 := Tryd.underlying47
  a37 := Tryd.isAgg47
  z37 := Tryd.sizeOf47
  v37 := Tryd.zeroValue47
  t70 := Tryd.underlying46
  a70 := Tryd.isAgg46
  z70 := Tryd.sizeOf46
  v70 := Tryd.zeroValue46
  t72 := Tryd.underlying49
  a72 := Tryd.isAgg49
  z72 := Tryd.sizeOf49
  v72 := Tryd.zeroValue49
  t127 := Tryd.underlying74
  a127 := Tryd.isAgg74
  z127 := Tryd.sizeOf74
  v127 := Tryd.zeroValue74 }
theorem Tryd.Builder_Extra_169 : Builder.Extra Tryd.prog Tryd.lays169_ren := {
  sizeBuilder := by kernel_rfl
  liesBuilder := by kernel_rfl
  t5 := Tryd.underlying5
  a5 := Tryd.isAgg5
  z5 := Tryd.sizeOf5
  v5 := Tryd.zeroValue5
  infoByte := by kernel_rfl
  cellsByte := by kernel_rfl
  sizeByte := by kernel_rfl
  neB5 := by decide }
open Go.RowKit in
theorem Tryd.Builder_String (B b : Nat) (l : List UInt8) (w : World) (h : Lib.IsBuilder 49 5 B b (Lib.byteCells l) w) (h0 : l ≠ []) :
    Calls Tryd.prog 21 #[.pointer (some ⟨b, 0, none⟩)] w fun e w' => e = .returned (.string ⟨l.toArray⟩) ∧ Below B w w' := Any.Builder_String Tryd.lays169 Tryd.Builder_Extra_169 B b l w h h0
open Go.RowKit in
theorem Tryd.Builder_String_empty (B b : Nat) (w : World) (h : Lib.IsBuilder 49 5 B b [] w) (hBw : B ≤ w.heap.size) :
    Calls Tryd.prog 21 #[.pointer (some ⟨b, 0, none⟩)] w fun e w' => e = .returned (.string ⟨#[]⟩) ∧ Below B w w' := Any.Builder_String_empty Tryd.lays169 Tryd.Builder_Extra_169 B b w h hBw
open Go.RowKit in
theorem Tryd.Builder_String_any (B b : Nat) (l : List UInt8) (w : World) (h : Lib.IsBuilder 49 5 B b (Lib.byteCells l) w) (hBw : B ≤ w.heap.size) :
    Calls Tryd.prog 21 #[.pointer (some ⟨b, 0, none⟩)] w fun e w' => e = .returned (.string ⟨l.toArray⟩) ∧ Below B w w' := Any.Builder_String_any Tryd.lays169 Tryd.Builder_Extra_169 B b l w h hBw
def Tryd.lays241_ren : Go.Shelf.Ren := ⟨fun | 241 => 53 | 277 => 62 | n => n, fun | 70 => 46 | 3 => 3 | 0 => 0 | 72 => 49 | 37 => 47 | 5 => 5 | n => n, fun | n => n⟩
theorem Tryd.lays241 : Go.Proofs.Lays.n241 Tryd.prog Tryd.lays241_ren := {
  mixed := by kernel_rfl
  f241 := Tryd.func53.trans (congrArg some (by kernel_rfl))
  f277 := Tryd.func62.trans (congrArg some (by kernel_rfl))
  t0 := Tryd.underlying0
  a0 := Tryd.isAgg0
  z0 := Tryd.sizeOf0
  v0 := Tryd.zeroValue0
  t3 := Tryd.underlying3
  a3 := Tryd.isAgg3
  z3 := Tryd.sizeOf3
  v3 := Tryd.zeroValue3
  t37 := Tryd.underlying47
  a37 := Tryd.isAgg47
  z37 := Tryd.sizeOf47
  v37 := Tryd.zeroValue47
  t70 := Tryd.underlying46
  a70 := Tryd.isAgg46
  z70 := Tryd.sizeOf46
  v70 := Tryd.zeroValue46
  t72 := Tryd.underlying49
  a72 := Tryd.isAgg49
  z72 := Tryd.sizeOf49
  v72 := Tryd.zeroValue49 }
theorem Tryd.Builder_Extra_241 : Builder.Extra Tryd.prog Tryd.lays241_ren := {
  sizeBuilder := by kernel_rfl
  liesBuilder := by kernel_rfl
  t5 := Tryd.underlying5
  a5 := Tryd.isAgg5
  z5 := Tryd.sizeOf5
  v5 := Tryd.zeroValue5
  infoByte := by kernel_rfl
  cellsByte := by kernel_rfl
  sizeByte := by kernel_rfl
  neB5 := by decide }
open Go.RowKit in
theorem Tryd.Builder_grow_fresh (B b n : Nat) (w : World) (hB : B ≤ b) (hbk : w.heap[b]? = some (.cells #[.pointer (some ⟨b, 0, none⟩), .slice none 0 0] 49 (0, 0))) (hBw : B ≤ w.heap.size) (hn : n ≤ 281474976710656) :
    Calls Tryd.prog 53 #[.pointer (some ⟨b, 0, none⟩), .int .i64 n] w fun e w' => e = .returned (.tuple #[]) ∧ (Lib.BuilderAt 49 5 B b (.pointer (some ⟨b, 0, none⟩)) [] w' ∧ Below B w w') := Any.Builder_grow_fresh Tryd.lays241 Tryd.Builder_Extra_241 B b n w hB hbk hBw hn
def Tryd.lays165_ren : Go.Shelf.Ren := ⟨fun | 165 => 44 | 240 => 30 | 241 => 53 | 276 => 41 | 277 => 62 | n => n, fun | 70 => 46 | 3 => 3 | 0 => 0 | 4 => 4 | 9 => 9 | 20 => 20 | 72 => 49 | 37 => 47 | 164 => 79 | 5 => 5 | n => n, fun | n => n⟩
theorem Tryd.lays165 : Go.Proofs.Lays.n165 Tryd.prog Tryd.lays165_ren := {
  mixed := by kernel_rfl
  f165 := Tryd.func44.trans (congrArg some (by kernel_rfl))
  f240 := Tryd.func30.trans (congrArg some (by kernel_rfl))
  f241 := Tryd.func53.trans (congrArg some (by kernel_rfl))
  f276 := Tryd.func41.trans (congrArg some (by kernel_rfl))
  f277 := Tryd.func62.trans (congrArg some (by kernel_rfl))
  t0 := Tryd.underlying0
  a0 := Tryd.isAgg0
  z0 := Tryd.sizeOf0
  v0 := Tryd.zeroValue0
  t3 := Tryd.underlying3
  a3 := Tryd.isAgg3
  z3 := Tryd.sizeOf3
  v3 := Tryd.zeroValue3
  t4 := Tryd.underlying4
  a4 := Tryd.isAgg4
  z4 := Tryd.sizeOf4
  v4 := Tryd.zeroValue4
  t9 := Tryd.underlying9
  a9 := Tryd.isAgg9
  z9 := Tryd.sizeOf9
  v9 := Tryd.zeroValue9
  t20 := Tryd.underlying20
  a20 := Tryd.isAgg20
  z20 := Tryd.sizeOf20
  v20 := Tryd.zeroValue20
  t37 := Tryd.underlying47
  a37 := Tryd.isAgg47
  z37 := Tryd.sizeOf47
  v37 := Tryd.zeroValue47
  t70 := Tryd.underlying46
  a70 := Tryd.isAgg46
  z70 := Tryd.sizeOf46
  v70 := Tryd.zeroValue46
  t72 := Tryd.underlying49
  a72 := Tryd.isAgg49
  z72 := Tryd.sizeOf49
  v72 := Tryd.zeroValue49
  t164 := Tryd.underlying79
  a164 := Tryd.isAgg79
  z164 := Tryd.sizeOf79
  v164 := Tryd.zeroValue79 }
theorem Tryd.Builder_Extra_165 : Builder.Extra Tryd.prog Tryd.lays165_ren := {
  sizeBuilder := by kernel_rfl
  liesBuilder := by kernel_rfl
  t5 := Tryd.underlying5
  a5 := Tryd.isAgg5
  z5 := Tryd.sizeOf5
  v5 := Tryd.zeroValue5
  infoByte := by kernel_rfl
  cellsByte := by kernel_rfl
  sizeByte := by kernel_rfl
  neB5 := by decide }
open Go.RowKit in
theorem Tryd.Builder_Grow_fresh (B b n : Nat) (w : World) (hB : B ≤ b) (hbk : w.heap[b]? = some (.cells #[.pointer none, .slice none 0 0] 49 (0, 0))) (hBw : B ≤ w.heap.size) (hn : n ≤ 281474976710656) :
    Calls Tryd.prog 44 #[.pointer (some ⟨b, 0, none⟩), .int .i64 n] w fun e w' => e = .returned (.tuple #[]) ∧ (Lib.BuilderAt 49 5 B b (.pointer (some ⟨b, 0, none⟩)) [] w' ∧ Below B w w') := Any.Builder_Grow_fresh Tryd.lays165 Tryd.Builder_Extra_165 B b n w hB hbk hBw hn
def Tryd.lays156_ren : Go.Shelf.Ren := ⟨fun | 156 => 34 | 165 => 44 | 166 => 19 | 169 => 21 | 240 => 30 | 241 => 53 | 276 => 41 | 277 => 62 | n => n, fun | 31 => 24 | 9 => 9 | 3 => 3 | 4 => 4 | 0 => 0 | 20 => 20 | 72 => 49 | 76 => 50 | 70 => 46 | 37 => 47 | 75 => 26 | 127 => 74 | 164 => 79 | 5 => 5 | 80 => 53 | n => n, fun | n => n⟩
theorem Tryd.lays156 : Go.Proofs.Lays.n156 Tryd.prog Tryd.lays156_ren := {
  mixed := by kernel_rfl
  f156 := Tryd.func34.trans (congrArg some (by kernel_rfl))
  f165 := Tryd.func44.trans (congrArg some (by kernel_rfl))
  f166 := Tryd.func19.trans (congrArg some (by kernel_rfl))
  f169 := Tryd.func21.trans (congrArg some (by kernel_rfl))
  f240 := Tryd.func30.trans (congrArg some (by kernel_rfl))
  f241 := Tryd.func53.trans (congrArg some (by kernel_rfl))
  f276 := Tryd.func41.trans (congrArg some (by kernel_rfl))
  f277 := Tryd.func62.trans (congrArg some (by kernel_rfl))
  t0 := Tryd.underlying0
  a0 := Tryd.isAgg0
  z0 := Tryd.sizeOf0
  v0 := Tryd.zeroValue0
  t3 := Tryd.underlying3
  a3 := Tryd.isAgg3
  z3 := Tryd.sizeOf3
  v3 := Tryd.zeroValue3
  t4 := Tryd.underlying4
  a4 := Tryd.isAgg4
  z4 := Tryd.sizeOf4
  v4 := Tryd.zeroValue4
  t9 := Tryd.underlying9
  a9 := Tryd.isAgg9
  z9 := Tryd.sizeOf9
  v9 := Tryd.zeroValue9
  t20 := Tryd.underlying20
  a20 := Tryd.isAgg20
  z20 := Tryd.sizeOf20
  v20 := Tryd.zeroValue20
  t31 := Tryd.underlying24
  a31 := Tryd.isAgg24
  z31 := Tryd.sizeOf24
  v31 := Tryd.zeroValue24
  t37 := Tryd.underlying47
  a37 := Tryd.isAgg47
  z37 := Tryd.sizeOf47
  v37 := Tryd.zeroValue47
  t70 := Tryd.underlying46
  a70 := Tryd.isAgg46
  z70 := Tryd.sizeOf46
  v70 := Tryd.zeroValue46
  t72 := Tryd.underlying49
  a72 := Tryd.isAgg49
  z72 := Tryd.sizeOf49
  v72 := Tryd.zeroValue49
  t75 := Tryd.underlying26
  a75 := Tryd.isAgg26
  z75 := Tryd.sizeOf26
  v75 := Tryd.zeroValue26
  t76 := Tryd.underlying50
  a76 := Tryd.isAgg50
  z76 := Tryd.sizeOf50
  v76 := Tryd.zeroValue50
  t127 := Tryd.underlying74
  a127 := Tryd.isAgg74
  z127 := Tryd.sizeOf74
  v127 := Tryd.zeroValue74
  t164 := Tryd.underlying79
  a164 := Tryd.isAgg79
  z164 := Tryd.sizeOf79
  v164 := Tryd.zeroValue79 }
theorem Tryd.Builder_Extra_156 : Builder.Extra Tryd.prog Tryd.lays156_ren := {
  sizeBuilder := by kernel_rfl
  liesBuilder := by kernel_rfl
  t5 := Tryd.underlying5
  a5 := Tryd.isAgg5
  z5 := Tryd.sizeOf5
  v5 := Tryd.zeroValue5
  infoByte := by kernel_rfl
  cellsByte := by kernel_rfl
  sizeByte := by kernel_rfl
  neB5 := by decide }
open Go.RowKit in
theorem Tryd.strings_Join_none (a : Option Addr) (c : Nat) (sep : ByteArray) (w : World) :
    Calls Tryd.prog 34 #[.slice a 0 c, .string sep] w fun e w' => e = .returned (.string ⟨#[]⟩) ∧ w' = w := Any.strings_Join_none Tryd.lays156 Tryd.Builder_Extra_156 a c sep w
open Go.RowKit in
theorem Tryd.strings_Join (bk o c : Nat) (xs : List ByteArray) (sep : ByteArray) (w : World) (hcells : ∀ (j : Nat) x, xs[j]? = some x → w.cell? ⟨bk, o + j, none⟩ = some (.string x)) (hbk : bk < w.heap.size) (hN : xs.length ≤ 140737488355328) (hcap : xs.length ≤ c) (hlen : (Lib.join (xs.map (·.data.toList)) sep.data.toList).length ≤ 140737488355328) :
    Calls Tryd.prog 34 #[.slice (some ⟨bk, o, none⟩) xs.length c, .string sep] w fun e w' => e = .returned (.string ⟨(Lib.join (xs.map (·.data.toList)) sep.data.toList).toArray⟩) ∧ Below w.heap.size w w' := Any.strings_Join Tryd.lays156 Tryd.Builder_Extra_156 bk o c xs sep w hcells hbk hN hcap hlen
def Tryd.lays119_ren : Go.Shelf.Ren := ⟨fun | 119 => 65 | n => n, fun | 21 => 21 | 4 => 4 | n => n, fun | n => n⟩
theorem Tryd.lays119 : Go.Proofs.Lays.n119 Tryd.prog Tryd.lays119_ren := {
  mixed := by kernel_rfl
  f119 := Tryd.func65.trans (congrArg some (by kernel_rfl))
  t4 := Tryd.underlying4
  a4 := Tryd.isAgg4
  z4 := Tryd.sizeOf4
  v4 := Tryd.zeroValue4
  t21 := Tryd.underlying21
  a21 := Tryd.isAgg21
  z21 := Tryd.sizeOf21
  v21 := Tryd.zeroValue21 }
theorem Tryd.utf8_ValidRune (r : Int) (w : World) :
    Calls Tryd.prog 65 #[.int .i32 r] w fun e w' => e = .returned (.bool (Lib.validRune r)) ∧ w' = w := Any.utf8_ValidRune Tryd.lays119 r w
def Tryd.lays137_ren : Go.Shelf.Ren := ⟨fun | 137 => 64 | 217 => 71 | 266 => 76 | n => n, fun | 9 => 9 | 5 => 5 | 3 => 3 | n => n, fun | n => n⟩
theorem Tryd.lays137 : Go.Proofs.Lays.n137 Tryd.prog Tryd.lays137_ren := {
  mixed := by kernel_rfl
  f137 := Tryd.func64.trans (congrArg some (by kernel_rfl))
  f217 := Tryd.func71.trans (congrArg some (by kernel_rfl))
  f266 := Tryd.func76.trans (congrArg some (by kernel_rfl))
  t3 := Tryd.underlying3
  a3 := Tryd.isAgg3
  z3 := Tryd.sizeOf3
  v3 := Tryd.zeroValue3
  t5 := Tryd.underlying5
  a5 := Tryd.isAgg5
  z5 := Tryd.sizeOf5
  v5 := Tryd.zeroValue5
  t9 := Tryd.underlying9
  a9 := Tryd.isAgg9
  z9 := Tryd.sizeOf9
  v9 := Tryd.zeroValue9 }
open Go.RowKit in
theorem Tryd.strings_IndexByte (s : ByteArray) (c : Int) (w : World) :
    Calls Tryd.prog 64 #[.string s, .int .u8 c] w fun e w' => e = .returned (.int .i64 (Lib.indexByte s.data.toList c.toNat.toUInt8)) ∧ w' = w := Any.strings_IndexByte Tryd.lays137 s c w
open Go.RowKit in
theorem Tryd.Builder_String_f (B b : Nat) (l : List UInt8) (w : World) (h : Lib.IsBuilderF 49 5 B b (Lib.byteCells l) w) (h0 : l ≠ []) :
    Calls Tryd.prog 21 #[.pointer (some ⟨b, 0, none⟩)] w fun e w' => e = .returned (.string ⟨l.toArray⟩) ∧ (Lib.IsBuilderF 49 5 B b (Lib.byteCells l) w' ∧ Below B w w') := Any.Builder_String_f Tryd.lays169 Tryd.Builder_Extra_169 B b l w h h0
open Go.RowKit in
theorem Tryd.Builder_String_empty_f (B b : Nat) (w : World) (h : Lib.IsBuilderF 49 5 B b [] w) (hBw : B ≤ w.heap.size) :
    Calls Tryd.prog 21 #[.pointer (some ⟨b, 0, none⟩)] w fun e w' => e = .returned (.string ⟨#[]⟩) ∧ (Lib.IsBuilderF 49 5 B b [] w' ∧ Below B w w') := Any.Builder_String_empty_f Tryd.lays169 Tryd.Builder_Extra_169 B b w h hBw
open Go.RowKit in
theorem Tryd.Builder_String_any_f (B b : Nat) (l : List UInt8) (w : World) (h : Lib.IsBuilderF 49 5 B b (Lib.byteCells l) w) (hBw : B ≤ w.heap.size) :
    Calls Tryd.prog 21 #[.pointer (some ⟨b, 0, none⟩)] w fun e w' => e = .returned (.string ⟨l.toArray⟩) ∧ (Lib.IsBuilderF 49 5 B b (Lib.byteCells l) w' ∧ Below B w w') := Any.Builder_String_any_f Tryd.lays169 Tryd.Builder_Extra_169 B b l w h hBw
open Go.RowKit in
theorem Tryd.Builder_String_k (B b : Nat) (l : List UInt8) (w : World) (h : Lib.IsBuilderF 49 5 B b (Lib.byteCells l) w) (h0 : l ≠ []) :
    Calls Tryd.prog 21 #[.pointer (some ⟨b, 0, none⟩)] w fun e w' => e = .returned (.string ⟨l.toArray⟩) ∧ (Lib.IsBuilderF 49 5 B b (Lib.byteCells l) w' ∧ Below B w w' ∧ Lib.OthersKept 5 (some b) w w') := Any.Builder_String_k Tryd.lays169 Tryd.Builder_Extra_169 B b l w h h0
open Go.RowKit in
theorem Tryd.Builder_String_empty_k (B b : Nat) (w : World) (h : Lib.IsBuilderF 49 5 B b [] w) (hBw : B ≤ w.heap.size) :
    Calls Tryd.prog 21 #[.pointer (some ⟨b, 0, none⟩)] w fun e w' => e = .returned (.string ⟨#[]⟩) ∧ (Lib.IsBuilderF 49 5 B b [] w' ∧ Below B w w' ∧ Lib.OthersKept 5 (some b) w w') := Any.Builder_String_empty_k Tryd.lays169 Tryd.Builder_Extra_169 B b w h hBw
open Go.RowKit in
theorem Tryd.Builder_String_any_k (B b : Nat) (l : List UInt8) (w : World) (h : Lib.IsBuilderF 49 5 B b (Lib.byteCells l) w) (hBw : B ≤ w.heap.size) :
    Calls Tryd.prog 21 #[.pointer (some ⟨b, 0, none⟩)] w fun e w' => e = .returned (.string ⟨l.toArray⟩) ∧ (Lib.IsBuilderF 49 5 B b (Lib.byteCells l) w' ∧ Below B w w' ∧ Lib.OthersKept 5 (some b) w w') := Any.Builder_String_any_k Tryd.lays169 Tryd.Builder_Extra_169 B b l w h hBw
open Go.RowKit in
theorem Tryd.Builder_grow_fresh_cap (B b n : Nat) (w : World) (hB : B ≤ b) (hbk : w.heap[b]? = some (.cells #[.pointer (some ⟨b, 0, none⟩), .slice none 0 0] 49 (0, 0))) (hBw : B ≤ w.heap.size) (hn : n ≤ 281474976710656) :
    Calls Tryd.prog 53 #[.pointer (some ⟨b, 0, none⟩), .int .i64 n] w fun e w' => e = .returned (.tuple #[]) ∧ (Lib.BuilderAt 49 5 B b (.pointer (some ⟨b, 0, none⟩)) [] w' ∧ Below B w w') ∧ ∃ p cap, w'.cell? ⟨b, 1, none⟩ = some (.slice p 0 cap) ∧ n ≤ cap := Any.Builder_grow_fresh_cap Tryd.lays241 Tryd.Builder_Extra_241 B b n w hB hbk hBw hn
open Go.RowKit in
theorem Tryd.Builder_Grow_fresh_cap (B b n : Nat) (w : World) (hB : B ≤ b) (hbk : w.heap[b]? = some (.cells #[.pointer none, .slice none 0 0] 49 (0, 0))) (hBw : B ≤ w.heap.size) (hn : n ≤ 281474976710656) :
    Calls Tryd.prog 44 #[.pointer (some ⟨b, 0, none⟩), .int .i64 n] w fun e w' => e = .returned (.tuple #[]) ∧ (Lib.BuilderAt 49 5 B b (.pointer (some ⟨b, 0, none⟩)) [] w' ∧ Below B w w') ∧ ∃ p cap, w'.cell? ⟨b, 1, none⟩ = some (.slice p 0 cap) ∧ n ≤ cap := Any.Builder_Grow_fresh_cap Tryd.lays165 Tryd.Builder_Extra_165 B b n w hB hbk hBw hn
def Tryd.lays217_ren : Go.Shelf.Ren := ⟨fun | 217 => 71 | 266 => 76 | n => n, fun | 9 => 9 | 5 => 5 | 3 => 3 | n => n, fun | n => n⟩
theorem Tryd.lays217 : Go.Proofs.Lays.n217 Tryd.prog Tryd.lays217_ren := {
  mixed := by kernel_rfl
  f217 := Tryd.func71.trans (congrArg some (by kernel_rfl))
  f266 := Tryd.func76.trans (congrArg some (by kernel_rfl))
  t3 := Tryd.underlying3
  a3 := Tryd.isAgg3
  z3 := Tryd.sizeOf3
  v3 := Tryd.zeroValue3
  t5 := Tryd.underlying5
  a5 := Tryd.isAgg5
  z5 := Tryd.sizeOf5
  v5 := Tryd.zeroValue5
  t9 := Tryd.underlying9
  a9 := Tryd.isAgg9
  z9 := Tryd.sizeOf9
  v9 := Tryd.zeroValue9 }
open Go.RowKit Go.Lib in
theorem Tryd.stringslite_IndexByte (s : ByteArray) (c : Int) (w : World) :
    Calls Tryd.prog 71 #[.string s, .int .u8 c] w fun e w' => e = .returned (.int .i64 (Lib.indexByte s.data.toList c.toNat.toUInt8)) ∧ w' = w := Any.stringslite_IndexByte Tryd.lays217 s c w
def Tryd.lays224_ren : Go.Shelf.Ren := ⟨fun | 224 => 66 | n => n, fun | 3 => 3 | n => n, fun | n => n⟩
theorem Tryd.lays224 : Go.Proofs.Lays.n224 Tryd.prog Tryd.lays224_ren := {
  mixed := by kernel_rfl
  f224 := Tryd.func66.trans (congrArg some (by kernel_rfl))
  t3 := Tryd.underlying3
  a3 := Tryd.isAgg3
  z3 := Tryd.sizeOf3
  v3 := Tryd.zeroValue3 }
open Go.RowKit Go.Lib in
theorem Tryd.bytealg_Cutover (n : Int) (h0 : 0 ≤ n) (h1 : n < 4611686018427387904) (w : World) :
    Calls Tryd.prog 66 #[.int .i64 n] w fun e w' => e = .returned (.int .i64 ((n + 16) / 8)) ∧ w' = w := Any.bytealg_Cutover Tryd.lays224 n h0 h1 w
def Tryd.lays314_ren : Go.Shelf.Ren := ⟨fun | 314 => 77 | n => n, fun | 9 => 9 | 51 => 104 | 3 => 3 | 4 => 4 | 5 => 5 | 46 => 99 | n => n, fun | n => n⟩
theorem Tryd.lays314 : Go.Proofs.Lays.n314 Tryd.prog Tryd.lays314_ren := {
  mixed := by kernel_rfl
  f314 := Tryd.func77.trans (congrArg some (by kernel_rfl))
  t3 := Tryd.underlying3
  a3 := Tryd.isAgg3
  z3 := Tryd.sizeOf3
  v3 := Tryd.zeroValue3
  t4 := Tryd.underlying4
  a4 := Tryd.isAgg4
  z4 := Tryd.sizeOf4
  v4 := Tryd.zeroValue4
  t5 := Tryd.underlying5
  a5 := Tryd.isAgg5
  z5 := Tryd.sizeOf5
  v5 := Tryd.zeroValue5
  t9 := Tryd.underlying9
  a9 := Tryd.isAgg9
  z9 := Tryd.sizeOf9
  v9 := Tryd.zeroValue9
  t46 := Tryd.underlying99
  a46 := Tryd.isAgg99
  z46 := Tryd.sizeOf99
  v46 := Tryd.zeroValue99
  t51 := Tryd.underlying104
  a51 := Tryd.isAgg104
  z51 := Tryd.sizeOf104
  v51 := Tryd.zeroValue104 }
open Go.RowKit Go.Lib in
theorem Tryd.bytealg_hashStr (sep : ByteArray) (hs : sep.size < 4294967281) (w : World) :
    Calls Tryd.prog 77 #[.string sep] w fun e w' => e = .returned (.tuple #[.int .u32 (RK.H sep.data.toList % 4294967296), .int .u32 (16777619 ^ sep.size % 4294967296)]) ∧ w' = w := Any.bytealg_hashStr Tryd.lays314 sep hs w
def Tryd.lays267_ren : Go.Shelf.Ren := ⟨fun | 267 => 72 | 314 => 77 | n => n, fun | 9 => 9 | 3 => 3 | 146 => 105 | 51 => 104 | 4 => 4 | 5 => 5 | 46 => 99 | n => n, fun | n => n⟩
theorem Tryd.lays267 : Go.Proofs.Lays.n267 Tryd.prog Tryd.lays267_ren := {
  mixed := by kernel_rfl
  f267 := Tryd.func72.trans (congrArg some (by kernel_rfl))
  f314 := Tryd.func77.trans (congrArg some (by kernel_rfl))
  t3 := Tryd.underlying3
  a3 := Tryd.isAgg3
  z3 := Tryd.sizeOf3
  v3 := Tryd.zeroValue3
  t4 := Tryd.underlying4
  a4 := Tryd.isAgg4
  z4 := Tryd.sizeOf4
  v4 := Tryd.zeroValue4
  t5 := Tryd.underlying5
  a5 := Tryd.isAgg5
  z5 := Tryd.sizeOf5
  v5 := Tryd.zeroValue5
  t9 := Tryd.underlying9
  a9 := Tryd.isAgg9
  z9 := Tryd.sizeOf9
  v9 := Tryd.zeroValue9
  t46 := Tryd.underlying99
  a46 := Tryd.isAgg99
  z46 := Tryd.sizeOf99
  v46 := Tryd.zeroValue99
  t51 := Tryd.underlying104
  a51 := Tryd.isAgg104
  z51 := Tryd.sizeOf104
  v51 := Tryd.zeroValue104
  t146 := Tryd.underlying105
  a146 := Tryd.isAgg105
  z146 := Tryd.sizeOf105
  v146 := Tryd.zeroValue105 }
open Go.RowKit Go.Lib in
theorem Tryd.bytealg_IndexRabinKarp (s sep : ByteArray) (h1 : 1 ≤ sep.size) (h2 : sep.size ≤ s.size) (hs : s.size < 4294967281) (w : World) :
    Calls Tryd.prog 72 #[.string s, .string sep] w fun e w' => e = .returned (.int .i64 (Lib.index s.data.toList sep.data.toList)) ∧ w' = w := Any.bytealg_IndexRabinKarp Tryd.lays267 s sep h1 h2 hs w
def Tryd.lays219_ren : Go.Shelf.Ren := ⟨fun | 219 => 68 | 217 => 71 | 225 => 67 | 224 => 66 | 267 => 72 | 266 => 76 | 314 => 77 | n => n, fun | 9 => 9 | 3 => 3 | 4 => 4 | 5 => 5 | 46 => 99 | 146 => 105 | 51 => 104 | n => n, fun | 1 => 0 | n => n⟩
theorem Tryd.lays219 : Go.Proofs.Lays.n219 Tryd.prog Tryd.lays219_ren := {
  mixed := by kernel_rfl
  f217 := Tryd.func71.trans (congrArg some (by kernel_rfl))
  f219 := Tryd.func68.trans (congrArg some (by kernel_rfl))
  f224 := Tryd.func66.trans (congrArg some (by kernel_rfl))
  f225 := Tryd.func67.trans (congrArg some (by kernel_rfl))
  f266 := Tryd.func76.trans (congrArg some (by kernel_rfl))
  f267 := Tryd.func72.trans (congrArg some (by kernel_rfl))
  f314 := Tryd.func77.trans (congrArg some (by kernel_rfl))
  t3 := Tryd.underlying3
  a3 := Tryd.isAgg3
  z3 := Tryd.sizeOf3
  v3 := Tryd.zeroValue3
  t4 := Tryd.underlying4
  a4 := Tryd.isAgg4
  z4 := Tryd.sizeOf4
  v4 := Tryd.zeroValue4
  t5 := Tryd.underlying5
  a5 := Tryd.isAgg5
  z5 := Tryd.sizeOf5
  v5 := Tryd.zeroValue5
  t9 := Tryd.underlying9
  a9 := Tryd.isAgg9
  z9 := Tryd.sizeOf9
  v9 := Tryd.zeroValue9
  t46 := Tryd.underlying99
  a46 := Tryd.isAgg99
  z46 := Tryd.sizeOf99
  v46 := Tryd.zeroValue99
  t51 := Tryd.underlying104
  a51 := Tryd.isAgg104
  z51 := Tryd.sizeOf104
  v51 := Tryd.zeroValue104
  t146 := Tryd.underlying105
  a146 := Tryd.isAgg105
  z146 := Tryd.sizeOf105
  v146 := Tryd.zeroValue105
  g1 := by kernel_rfl }
open Go.RowKit Go.Lib in
theorem Tryd.stringslite_Index_one (s : ByteArray) (c : UInt8) (w : World) :
    Calls Tryd.prog 68 #[.string s, .string ⟨#[c]⟩] w fun e w' => e = .returned (.int .i64 (Lib.indexByte s.data.toList c)) ∧ w' = w := Any.stringslite_Index_one Tryd.lays219 s c w
open Go.RowKit Go.Lib in
theorem Tryd.stringslite_Index (s sub : ByteArray) (m : Int) (w : World) (hs : s.size < 4294967281) (hm : w.cell? ⟨0, 0, none⟩ = some (.int .i64 m)) :
    Calls Tryd.prog 68 #[.string s, .string sub] w fun e w' => e = .returned (.int .i64 (Lib.index s.data.toList sub.data.toList)) ∧ w' = w := Any.stringslite_Index Tryd.lays219 s sub m w hs hm
def Tryd.lays143_ren : Go.Shelf.Ren := ⟨fun | 143 => 60 | 219 => 68 | 217 => 71 | 225 => 67 | 224 => 66 | 267 => 72 | 266 => 76 | 314 => 77 | n => n, fun | 9 => 9 | 3 => 3 | 4 => 4 | 5 => 5 | 46 => 99 | 146 => 105 | 51 => 104 | n => n, fun | 1 => 0 | n => n⟩
theorem Tryd.lays143 : Go.Proofs.Lays.n143 Tryd.prog Tryd.lays143_ren := {
  mixed := by kernel_rfl
  f143 := Tryd.func60.trans (congrArg some (by kernel_rfl))
  f217 := Tryd.func71.trans (congrArg some (by kernel_rfl))
  f219 := Tryd.func68.trans (congrArg some (by kernel_rfl))
  f224 := Tryd.func66.trans (congrArg some (by kernel_rfl))
  f225 := Tryd.func67.trans (congrArg some (by kernel_rfl))
  f266 := Tryd.func76.trans (congrArg some (by kernel_rfl))
  f267 := Tryd.func72.trans (congrArg some (by kernel_rfl))
  f314 := Tryd.func77.trans (congrArg some (by kernel_rfl))
  t3 := Tryd.underlying3
  a3 := Tryd.isAgg3
  z3 := Tryd.sizeOf3
  v3 := Tryd.zeroValue3
  t4 := Tryd.underlying4
  a4 := Tryd.isAgg4
  z4 := Tryd.sizeOf4
  v4 := Tryd.zeroValue4
  t5 := Tryd.underlying5
  a5 := Tryd.isAgg5
  z5 := Tryd.sizeOf5
  v5 := Tryd.zeroValue5
  t9 := Tryd.underlying9
  a9 := Tryd.isAgg9
  z9 := Tryd.sizeOf9
  v9 := Tryd.zeroValue9
  t46 := Tryd.underlying99
  a46 := Tryd.isAgg99
  z46 := Tryd.sizeOf99
  v46 := Tryd.zeroValue99
  t51 := Tryd.underlying104
  a51 := Tryd.isAgg104
  z51 := Tryd.sizeOf104
  v51 := Tryd.zeroValue104
  t146 := Tryd.underlying105
  a146 := Tryd.isAgg105
  z146 := Tryd.sizeOf105
  v146 := Tryd.zeroValue105
  g1 := by kernel_rfl }
open Go.RowKit Go.Lib in
theorem Tryd.strings_Index_one (s : ByteArray) (c : UInt8) (w : World) :
    Calls Tryd.prog 60 #[.string s, .string ⟨#[c]⟩] w fun e w' => e = .returned (.int .i64 (Lib.indexByte s.data.toList c)) ∧ w' = w := Any.strings_Index_one Tryd.lays143 s c w
open Go.RowKit Go.Lib in
theorem Tryd.strings_Index (s sub : ByteArray) (m : Int) (w : World) (hs : s.size < 4294967281) (hm : w.cell? ⟨0, 0, none⟩ = some (.int .i64 m)) :
    Calls Tryd.prog 60 #[.string s, .string sub] w fun e w' => e = .returned (.int .i64 (Lib.index s.data.toList sub.data.toList)) ∧ w' = w := Any.strings_Index Tryd.lays143 s sub m w hs hm
def Tryd.lays144_ren : Go.Shelf.Ren := ⟨fun | 144 => 50 | 143 => 60 | 219 => 68 | 217 => 71 | 225 => 67 | 224 => 66 | 267 => 72 | 266 => 76 | 314 => 77 | n => n, fun | 9 => 9 | 4 => 4 | 3 => 3 | 5 => 5 | 46 => 99 | 146 => 105 | 51 => 104 | n => n, fun | 1 => 0 | n => n⟩
theorem Tryd.lays144 : Go.Proofs.Lays.n144 Tryd.prog Tryd.lays144_ren := {
  mixed := by kernel_rfl
  f143 := Tryd.func60.trans (congrArg some (by kernel_rfl))
  f144 := Tryd.func50.trans (congrArg some (by kernel_rfl))
  f217 := Tryd.func71.trans (congrArg some (by kernel_rfl))
  f219 := Tryd.func68.trans (congrArg some (by kernel_rfl))
  f224 := Tryd.func66.trans (congrArg some (by kernel_rfl))
  f225 := Tryd.func67.trans (congrArg some (by kernel_rfl))
  f266 := Tryd.func76.trans (congrArg some (by kernel_rfl))
  f267 := Tryd.func72.trans (congrArg some (by kernel_rfl))
  f314 := Tryd.func77.trans (congrArg some (by kernel_rfl))
  t3 := Tryd.underlying3
  a3 := Tryd.isAgg3
  z3 := Tryd.sizeOf3
  v3 := Tryd.zeroValue3
  t4 := Tryd.underlying4
  a4 := Tryd.isAgg4
  z4 := Tryd.sizeOf4
  v4 := Tryd.zeroValue4
  t5 := Tryd.underlying5
  a5 := Tryd.isAgg5
  z5 := Tryd.sizeOf5
  v5 := Tryd.zeroValue5
  t9 := Tryd.underlying9
  a9 := Tryd.isAgg9
  z9 := Tryd.sizeOf9
  v9 := Tryd.zeroValue9
  t46 := Tryd.underlying99
  a46 := Tryd.isAgg99
  z46 := Tryd.sizeOf99
  v46 := Tryd.zeroValue99
  t51 := Tryd.underlying104
  a51 := Tryd.isAgg104
  z51 := Tryd.sizeOf104
  v51 := Tryd.zeroValue104
  t146 := Tryd.underlying105
  a146 := Tryd.isAgg105
  z146 := Tryd.sizeOf105
  v146 := Tryd.zeroValue105
  g1 := by kernel_rfl }
open Go.RowKit Go.Lib in
theorem Tryd.strings_Contains_one (s : ByteArray) (c : UInt8) (w : World) :
    Calls Tryd.prog 50 #[.string s, .string ⟨#[c]⟩] w fun e w' => e = .returned (.bool (decide (0 ≤ Lib.indexByte s.data.toList c))) ∧ w' = w := Any.strings_Contains_one Tryd.lays144 s c w
open Go.RowKit Go.Lib in
theorem Tryd.strings_Contains (s sub : ByteArray) (m : Int) (w : World) (hs : s.size < 4294967281) (hm : w.cell? ⟨0, 0, none⟩ = some (.int .i64 m)) :
    Calls Tryd.prog 50 #[.string s, .string sub] w fun e w' => e = .returned (.bool (Lib.contains s.data.toList sub.data.toList)) ∧ w' = w := Any.strings_Contains Tryd.lays144 s sub m w hs hm
def Tryd.lays220_ren : Go.Shelf.Ren := ⟨fun | 220 => 63 | 219 => 68 | 217 => 71 | 225 => 67 | 224 => 66 | 267 => 72 | 266 => 76 | 314 => 77 | n => n, fun | 9 => 9 | 4 => 4 | 3 => 3 | 5 => 5 | 46 => 99 | 146 => 105 | 51 => 104 | n => n, fun | 1 => 0 | n => n⟩
theorem Tryd.lays220 : Go.Proofs.Lays.n220 Tryd.prog Tryd.lays220_ren := {
  mixed := by kernel_rfl
  f217 := Tryd.func71.trans (congrArg some (by kernel_rfl))
  f219 := Tryd.func68.trans (congrArg some (by kernel_rfl))
  f220 := Tryd.func63.trans (congrArg some (by kernel_rfl))
  f224 := Tryd.func66.trans (congrArg some (by kernel_rfl))
  f225 := Tryd.func67.trans (congrArg some (by kernel_rfl))
  f266 := Tryd.func76.trans (congrArg some (by kernel_rfl))
  f267 := Tryd.func72.trans (congrArg some (by kernel_rfl))
  f314 := Tryd.func77.trans (congrArg some (by kernel_rfl))
  t3 := Tryd.underlying3
  a3 := Tryd.isAgg3
  z3 := Tryd.sizeOf3
  v3 := Tryd.zeroValue3
  t4 := Tryd.underlying4
  a4 := Tryd.isAgg4
  z4 := Tryd.sizeOf4
  v4 := Tryd.zeroValue4
  t5 := Tryd.underlying5
  a5 := Tryd.isAgg5
  z5 := Tryd.sizeOf5
  v5 := Tryd.zeroValue5
  t9 := Tryd.underlying9
  a9 := Tryd.isAgg9
  z9 := Tryd.sizeOf9
  v9 := Tryd.zeroValue9
  t46 := Tryd.underlying99
  a46 := Tryd.isAgg99
  z46 := Tryd.sizeOf99
  v46 := Tryd.zeroValue99
  t51 := Tryd.underlying104
  a51 := Tryd.isAgg104
  z51 := Tryd.sizeOf104
  v51 := Tryd.zeroValue104
  t146 := Tryd.underlying105
  a146 := Tryd.isAgg105
  z146 := Tryd.sizeOf105
  v146 := Tryd.zeroValue105
  g1 := by kernel_rfl }
open Go.RowKit Go.Lib in
theorem Tryd.stringslite_Cut (s sep : ByteArray) (m : Int) (w : World) (hs : s.size < 4294967281) (hm : w.cell? ⟨0, 0, none⟩ = some (.int .i64 m)) :
    Calls Tryd.prog 63 #[.string s, .string sep] w fun e w' => e = .returned (.tuple #[.string ⟨(Lib.cut s.data.toList sep.data.toList).1.toArray⟩, .string ⟨(Lib.cut s.data.toList sep.data.toList).2.1.toArray⟩, .bool (Lib.cut s.data.toList sep.data.toList).2.2]) ∧ ∃ n, w' = w.drewN n := Any.stringslite_Cut Tryd.lays220 s sep m w hs hm
def Tryd.lays145_ren : Go.Shelf.Ren := ⟨fun | 145 => 55 | 220 => 63 | 219 => 68 | 217 => 71 | 225 => 67 | 224 => 66 | 267 => 72 | 266 => 76 | 314 => 77 | n => n, fun | 9 => 9 | 4 => 4 | 59 => 76 | 3 => 3 | 5 => 5 | 46 => 99 | 146 => 105 | 51 => 104 | n => n, fun | 1 => 0 | n => n⟩
theorem Tryd.lays145 : Go.Proofs.Lays.n145 Tryd.prog Tryd.lays145_ren := {
  mixed := by kernel_rfl
  f145 := Tryd.func55.trans (congrArg some (by kernel_rfl))
  f217 := Tryd.func71.trans (congrArg some (by kernel_rfl))
  f219 := Tryd.func68.trans (congrArg some (by kernel_rfl))
  f220 := Tryd.func63.trans (congrArg some (by kernel_rfl))
  f224 := Tryd.func66.trans (congrArg some (by kernel_rfl))
  f225 := Tryd.func67.trans (congrArg some (by kernel_rfl))
  f266 := Tryd.func76.trans (congrArg some (by kernel_rfl))
  f267 := Tryd.func72.trans (congrArg some (by kernel_rfl))
  f314 := Tryd.func77.trans (congrArg some (by kernel_rfl))
  t3 := Tryd.underlying3
  a3 := Tryd.isAgg3
  z3 := Tryd.sizeOf3
  v3 := Tryd.zeroValue3
  t4 := Tryd.underlying4
  a4 := Tryd.isAgg4
  z4 := Tryd.sizeOf4
  v4 := Tryd.zeroValue4
  t5 := Tryd.underlying5
  a5 := Tryd.isAgg5
  z5 := Tryd.sizeOf5
  v5 := Tryd.zeroValue5
  t9 := Tryd.underlying9
  a9 := Tryd.isAgg9
  z9 := Tryd.sizeOf9
  v9 := Tryd.zeroValue9
  t46 := Tryd.underlying99
  a46 := Tryd.isAgg99
  z46 := Tryd.sizeOf99
  v46 := Tryd.zeroValue99
  t51 := Tryd.underlying104
  a51 := Tryd.isAgg104
  z51 := Tryd.sizeOf104
  v51 := Tryd.zeroValue104
  t59 := Tryd.underlying76
  a59 := Tryd.isAgg76
  z59 := Tryd.sizeOf76
  v59 := Tryd.zeroValue76
  t146 := Tryd.underlying105
  a146 := Tryd.isAgg105
  z146 := Tryd.sizeOf105
  v146 := Tryd.zeroValue105
  g1 := by kernel_rfl }
open Go.RowKit Go.Lib in
theorem Tryd.strings_Cut (s sep : ByteArray) (m : Int) (w : World) (hs : s.size < 4294967281) (hm : w.cell? ⟨0, 0, none⟩ = some (.int .i64 m)) :
    Calls Tryd.prog 55 #[.string s, .string sep] w fun e w' => e = .returned (.tuple #[.string ⟨(Lib.cut s.data.toList sep.data.toList).1.toArray⟩, .string ⟨(Lib.cut s.data.toList sep.data.toList).2.1.toArray⟩, .bool (Lib.cut s.data.toList sep.data.toList).2.2]) ∧ ∃ n, w' = w.drewN n := Any.strings_Cut Tryd.lays145 s sep m w hs hm
def Tryd.lays138_ren : Go.Shelf.Ren := ⟨fun | 138 => 69 | 195 => 73 | 218 => 74 | 143 => 60 | 219 => 68 | 217 => 71 | 225 => 67 | 224 => 66 | 267 => 72 | 266 => 76 | 314 => 77 | n => n, fun | 9 => 9 | 3 => 3 | 4 => 4 | 5 => 5 | 0 => 0 | 46 => 99 | 146 => 105 | 51 => 104 | n => n, fun | 1 => 0 | n => n⟩
theorem Tryd.lays138 : Go.Proofs.Lays.n138 Tryd.prog Tryd.lays138_ren := {
  mixed := by kernel_rfl
  f138 := Tryd.func69.trans (congrArg some (by kernel_rfl))
  f143 := Tryd.func60.trans (congrArg some (by kernel_rfl))
  f195 := Tryd.func73.trans (congrArg some (by kernel_rfl))
  f217 := Tryd.func71.trans (congrArg some (by kernel_rfl))
  f218 := Tryd.func74.trans (congrArg some (by kernel_rfl))
  f219 := Tryd.func68.trans (congrArg some (by kernel_rfl))
  f224 := Tryd.func66.trans (congrArg some (by kernel_rfl))
  f225 := Tryd.func67.trans (congrArg some (by kernel_rfl))
  f266 := Tryd.func76.trans (congrArg some (by kernel_rfl))
  f267 := Tryd.func72.trans (congrArg some (by kernel_rfl))
  f314 := Tryd.func77.trans (congrArg some (by kernel_rfl))
  t0 := Tryd.underlying0
  a0 := Tryd.isAgg0
  z0 := Tryd.sizeOf0
  v0 := Tryd.zeroValue0
  t3 := Tryd.underlying3
  a3 := Tryd.isAgg3
  z3 := Tryd.sizeOf3
  v3 := Tryd.zeroValue3
  t4 := Tryd.underlying4
  a4 := Tryd.isAgg4
  z4 := Tryd.sizeOf4
  v4 := Tryd.zeroValue4
  t5 := Tryd.underlying5
  a5 := Tryd.isAgg5
  z5 := Tryd.sizeOf5
  v5 := Tryd.zeroValue5
  t9 := Tryd.underlying9
  a9 := Tryd.isAgg9
  z9 := Tryd.sizeOf9
  v9 := Tryd.zeroValue9
  t46 := Tryd.underlying99
  a46 := Tryd.isAgg99
  z46 := Tryd.sizeOf99
  v46 := Tryd.zeroValue99
  t51 := Tryd.underlying104
  a51 := Tryd.isAgg104
  z51 := Tryd.sizeOf104
  v51 := Tryd.zeroValue104
  t146 := Tryd.underlying105
  a146 := Tryd.isAgg105
  z146 := Tryd.sizeOf105
  v146 := Tryd.zeroValue105
  g1 := by kernel_rfl }
open Go.RowKit Go.Lib in
theorem Tryd.strings_Count_one (s : ByteArray) (c : UInt8) (w : World) :
    Calls Tryd.prog 69 #[.string s, .string ⟨#[c]⟩] w fun e w' => e = .returned (.int .i64 (Lib.countByte s.data.toList c)) ∧ w' = w := Any.strings_Count_one Tryd.lays138 s c w
open Go.RowKit Go.Lib in
theorem Tryd.strings_Count (s sub : ByteArray) (m : Int) (w : World) (hs : s.size < 4294967281) (hm : w.cell? ⟨0, 0, none⟩ = some (.int .i64 m)) (h2 : 2 ≤ sub.size) :
    Calls Tryd.prog 69 #[.string s, .string sub] w fun e w' => e = .returned (.int .i64 (Lib.countB s sub)) ∧ w' = w := Any.strings_Count Tryd.lays138 s sub m w hs hm h2
def Tryd.laysM219_ren : Go.Shelf.Ren := ⟨fun | 219 => 68 | 217 => 71 | 225 => 67 | 224 => 66 | 267 => 72 | 266 => 76 | 314 => 77 | n => n, fun | 9 => 9 | 3 => 3 | 4 => 4 | 5 => 5 | 46 => 99 | 146 => 105 | 51 => 104 | n => n, fun | 1 => 0 | n => n⟩
theorem Tryd.laysM219 : Go.Proofs.LaysM.n219 Tryd.prog Tryd.laysM219_ren := {
  mixed := by kernel_rfl
  f217 := Tryd.func71.trans (congrArg some (by kernel_rfl))
  f219 := Tryd.func68.trans (congrArg some (by kernel_rfl))
  f224 := Tryd.func66.trans (congrArg some (by kernel_rfl))
  f225 := Tryd.func67.trans (congrArg some (by kernel_rfl))
  f266 := Tryd.func76.trans (congrArg some (by kernel_rfl))
  f267 := Tryd.func72.trans (congrArg some (by kernel_rfl))
  f314 := Tryd.func77.trans (congrArg some (by kernel_rfl))
  t3 := Tryd.underlying3
  a3 := Tryd.isAgg3
  z3 := Tryd.sizeOf3
  v3 := Tryd.zeroValue3
  t4 := Tryd.underlying4
  a4 := Tryd.isAgg4
  z4 := Tryd.sizeOf4
  v4 := Tryd.zeroValue4
  t5 := Tryd.underlying5
  a5 := Tryd.isAgg5
  z5 := Tryd.sizeOf5
  v5 := Tryd.zeroValue5
  t9 := Tryd.underlying9
  a9 := Tryd.isAgg9
  z9 := Tryd.sizeOf9
  v9 := Tryd.zeroValue9
  t46 := Tryd.underlying99
  a46 := Tryd.isAgg99
  z46 := Tryd.sizeOf99
  v46 := Tryd.zeroValue99
  t51 := Tryd.underlying104
  a51 := Tryd.isAgg104
  z51 := Tryd.sizeOf104
  v51 := Tryd.zeroValue104
  t146 := Tryd.underlying105
  a146 := Tryd.isAgg105
  z146 := Tryd.sizeOf105
  v146 := Tryd.zeroValue105
  g1 := by kernel_rfl
  i3 := by kernel_rfl
  i4 := by kernel_rfl
  i5 := by kernel_rfl
  i9 := by kernel_rfl
  i46 := by kernel_rfl
  i51 := by kernel_rfl
  i146 := by kernel_rfl
  m1 := by kernel_rfl
  s1_3 := fun w h => Go.Proofs.cell_of_shapedOpen_int (zero := #[.int .i64 0]) (t := 3) h (of_decide_eq_true (by kernel_rfl)) (by kernel_rfl) rfl (by kernel_rfl) (by kernel_rfl) Tryd.underlying3 }
open Go.RowKit Go.Lib in
theorem Tryd.stringslite_Index_shaped (s sub : ByteArray) (w : World) (h : w.ShapedOpen Tryd.prog) (hs : s.size < 4294967281) :
    Calls Tryd.prog 68 #[.string s, .string sub] w fun e w' => e = .returned (.int .i64 (Lib.index s.data.toList sub.data.toList)) ∧ w' = w := Any.stringslite_Index_shaped Tryd.laysM219 s sub w h hs
def Tryd.laysM143_ren : Go.Shelf.Ren := ⟨fun | 143 => 60 | 219 => 68 | 217 => 71 | 225 => 67 | 224 => 66 | 267 => 72 | 266 => 76 | 314 => 77 | n => n, fun | 9 => 9 | 3 => 3 | 4 => 4 | 5 => 5 | 46 => 99 | 146 => 105 | 51 => 104 | n => n, fun | 1 => 0 | n => n⟩
theorem Tryd.laysM143 : Go.Proofs.LaysM.n143 Tryd.prog Tryd.laysM143_ren := {
  mixed := by kernel_rfl
  f143 := Tryd.func60.trans (congrArg some (by kernel_rfl))
  f217 := Tryd.func71.trans (congrArg some (by kernel_rfl))
  f219 := Tryd.func68.trans (congrArg some (by kernel_rfl))
  f224 := Tryd.func66.trans (congrArg some (by kernel_rfl))
  f225 := Tryd.func67.trans (congrArg some (by kernel_rfl))
  f266 := Tryd.func76.trans (congrArg some (by kernel_rfl))
  f267 := Tryd.func72.trans (congrArg some (by kernel_rfl))
  f314 := Tryd.func77.trans (congrArg some (by kernel_rfl))
  t3 := Tryd.underlying3
  a3 := Tryd.isAgg3
  z3 := Tryd.sizeOf3
  v3 := Tryd.zeroValue3
  t4 := Tryd.underlying4
  a4 := Tryd.isAgg4
  z4 := Tryd.sizeOf4
  v4 := Tryd.zeroValue4
  t5 := Tryd.underlying5
  a5 := Tryd.isAgg5
  z5 := Tryd.sizeOf5
  v5 := Tryd.zeroValue5
  t9 := Tryd.underlying9
  a9 := Tryd.isAgg9
  z9 := Tryd.sizeOf9
  v9 := Tryd.zeroValue9
  t46 := Tryd.underlying99
  a46 := Tryd.isAgg99
  z46 := Tryd.sizeOf99
  v46 := Tryd.zeroValue99
  t51 := Tryd.underlying104
  a51 := Tryd.isAgg104
  z51 := Tryd.sizeOf104
  v51 := Tryd.zeroValue104
  t146 := Tryd.underlying105
  a146 := Tryd.isAgg105
  z146 := Tryd.sizeOf105
  v146 := Tryd.zeroValue105
  g1 := by kernel_rfl
  i3 := by kernel_rfl
  i4 := by kernel_rfl
  i5 := by kernel_rfl
  i9 := by kernel_rfl
  i46 := by kernel_rfl
  i51 := by kernel_rfl
  i146 := by kernel_rfl
  m1 := by kernel_rfl
  s1_3 := fun w h => Go.Proofs.cell_of_shapedOpen_int (zero := #[.int .i64 0]) (t := 3) h (of_decide_eq_true (by kernel_rfl)) (by kernel_rfl) rfl (by kernel_rfl) (by kernel_rfl) Tryd.underlying3 }
open Go.RowKit Go.Lib in
theorem Tryd.strings_Index_shaped (s sub : ByteArray) (w : World) (h : w.ShapedOpen Tryd.prog) (hs : s.size < 4294967281) :
    Calls Tryd.prog 60 #[.string s, .string sub] w fun e w' => e = .returned (.int .i64 (Lib.index s.data.toList sub.data.toList)) ∧ w' = w := Any.strings_Index_shaped Tryd.laysM143 s sub w h hs
def Tryd.laysM144_ren : Go.Shelf.Ren := ⟨fun | 144 => 50 | 143 => 60 | 219 => 68 | 217 => 71 | 225 => 67 | 224 => 66 | 267 => 72 | 266 => 76 | 314 => 77 | n => n, fun | 9 => 9 | 4 => 4 | 3 => 3 | 5 => 5 | 46 => 99 | 146 => 105 | 51 => 104 | n => n, fun | 1 => 0 | n => n⟩
theorem Tryd.laysM144 : Go.Proofs.LaysM.n144 Tryd.prog Tryd.laysM144_ren := {
  mixed := by kernel_rfl
  f143 := Tryd.func60.trans (congrArg some (by kernel_rfl))
  f144 := Tryd.func50.trans (congrArg some (by kernel_rfl))
  f217 := Tryd.func71.trans (congrArg some (by kernel_rfl))
  f219 := Tryd.func68.trans (congrArg some (by kernel_rfl))
  f224 := Tryd.func66.trans (congrArg some (by kernel_rfl))
  f225 := Tryd.func67.trans (congrArg some (by kernel_rfl))
  f266 := Tryd.func76.trans (congrArg some (by kernel_rfl))
  f267 := Tryd.func72.trans (congrArg some (by kernel_rfl))
  f314 := Tryd.func77.trans (congrArg some (by kernel_rfl))
  t3 := Tryd.underlying3
  a3 := Tryd.isAgg3
  z3 := Tryd.sizeOf3
  v3 := Tryd.zeroValue3
  t4 := Tryd.underlying4
  a4 := Tryd.isAgg4
  z4 := Tryd.sizeOf4
  v4 := Tryd.zeroValue4
  t5 := Tryd.underlying5
  a5 := Tryd.isAgg5
  z5 := Tryd.sizeOf5
  v5 := Tryd.zeroValue5
  t9 := Tryd.underlying9
  a9 := Tryd.isAgg9
  z9 := Tryd.sizeOf9
  v9 := Tryd.zeroValue9
  t46 := Tryd.underlying99
  a46 := Tryd.isAgg99
  z46 := Tryd.sizeOf99
  v46 := Tryd.zeroValue99
  t51 := Tryd.underlying104
  a51 := Tryd.isAgg104
  z51 := Tryd.sizeOf104
  v51 := Tryd.zeroValue104
  t146 := Tryd.underlying105
  a146 := Tryd.isAgg105
  z146 := Tryd.sizeOf105
  v146 := Tryd.zeroValue105
  g1 := by kernel_rfl
  i3 := by kernel_rfl
  i4 := by kernel_rfl
  i5 := by kernel_rfl
  i9 := by kernel_rfl
  i46 := by kernel_rfl
  i51 := by kernel_rfl
  i146 := by kernel_rfl
  m1 := by kernel_rfl
  s1_3 := fun w h => Go.Proofs.cell_of_shapedOpen_int (zero := #[.int .i64 0]) (t := 3) h (of_decide_eq_true (by kernel_rfl)) (by kernel_rfl) rfl (by kernel_rfl) (by kernel_rfl) Tryd.underlying3 }
open Go.RowKit Go.Lib in
theorem Tryd.strings_Contains_shaped (s sub : ByteArray) (w : World) (h : w.ShapedOpen Tryd.prog) (hs : s.size < 4294967281) :
    Calls Tryd.prog 50 #[.string s, .string sub] w fun e w' => e = .returned (.bool (Lib.contains s.data.toList sub.data.toList)) ∧ w' = w := Any.strings_Contains_shaped Tryd.laysM144 s sub w h hs
def Tryd.laysM220_ren : Go.Shelf.Ren := ⟨fun | 220 => 63 | 219 => 68 | 217 => 71 | 225 => 67 | 224 => 66 | 267 => 72 | 266 => 76 | 314 => 77 | n => n, fun | 9 => 9 | 4 => 4 | 3 => 3 | 5 => 5 | 46 => 99 | 146 => 105 | 51 => 104 | n => n, fun | 1 => 0 | n => n⟩
theorem Tryd.laysM220 : Go.Proofs.LaysM.n220 Tryd.prog Tryd.laysM220_ren := {
  mixed := by kernel_rfl
  f217 := Tryd.func71.trans (congrArg some (by kernel_rfl))
  f219 := Tryd.func68.trans (congrArg some (by kernel_rfl))
  f220 := Tryd.func63.trans (congrArg some (by kernel_rfl))
  f224 := Tryd.func66.trans (congrArg some (by kernel_rfl))
  f225 := Tryd.func67.trans (congrArg some (by kernel_rfl))
  f266 := Tryd.func76.trans (congrArg some (by kernel_rfl))
  f267 := Tryd.func72.trans (congrArg some (by kernel_rfl))
  f314 := Tryd.func77.trans (congrArg some (by kernel_rfl))
  t3 := Tryd.underlying3
  a3 := Tryd.isAgg3
  z3 := Tryd.sizeOf3
  v3 := Tryd.zeroValue3
  t4 := Tryd.underlying4
  a4 := Tryd.isAgg4
  z4 := Tryd.sizeOf4
  v4 := Tryd.zeroValue4
  t5 := Tryd.underlying5
  a5 := Tryd.isAgg5
  z5 := Tryd.sizeOf5
  v5 := Tryd.zeroValue5
  t9 := Tryd.underlying9
  a9 := Tryd.isAgg9
  z9 := Tryd.sizeOf9
  v9 := Tryd.zeroValue9
  t46 := Tryd.underlying99
  a46 := Tryd.isAgg99
  z46 := Tryd.sizeOf99
  v46 := Tryd.zeroValue99
  t51 := Tryd.underlying104
  a51 := Tryd.isAgg104
  z51 := Tryd.sizeOf104
  v51 := Tryd.zeroValue104
  t146 := Tryd.underlying105
  a146 := Tryd.isAgg105
  z146 := Tryd.sizeOf105
  v146 := Tryd.zeroValue105
  g1 := by kernel_rfl
  i3 := by kernel_rfl
  i4 := by kernel_rfl
  i5 := by kernel_rfl
  i9 := by kernel_rfl
  i46 := by kernel_rfl
  i51 := by kernel_rfl
  i146 := by kernel_rfl
  m1 := by kernel_rfl
  s1_3 := fun w h => Go.Proofs.cell_of_shapedOpen_int (zero := #[.int .i64 0]) (t := 3) h (of_decide_eq_true (by kernel_rfl)) (by kernel_rfl) rfl (by kernel_rfl) (by kernel_rfl) Tryd.underlying3 }
open Go.RowKit Go.Lib in
theorem Tryd.stringslite_Cut_shaped (s sep : ByteArray) (w : World) (h : w.ShapedOpen Tryd.prog) (hs : s.size < 4294967281) :
    Calls Tryd.prog 63 #[.string s, .string sep] w fun e w' => e = .returned (.tuple #[.string ⟨(Lib.cut s.data.toList sep.data.toList).1.toArray⟩, .string ⟨(Lib.cut s.data.toList sep.data.toList).2.1.toArray⟩, .bool (Lib.cut s.data.toList sep.data.toList).2.2]) ∧ ∃ n, w' = w.drewN n := Any.stringslite_Cut_shaped Tryd.laysM220 s sep w h hs
def Tryd.laysM145_ren : Go.Shelf.Ren := ⟨fun | 145 => 55 | 220 => 63 | 219 => 68 | 217 => 71 | 225 => 67 | 224 => 66 | 267 => 72 | 266 => 76 | 314 => 77 | n => n, fun | 9 => 9 | 4 => 4 | 59 => 76 | 3 => 3 | 5 => 5 | 46 => 99 | 146 => 105 | 51 => 104 | n => n, fun | 1 => 0 | n => n⟩
theorem Tryd.laysM145 : Go.Proofs.LaysM.n145 Tryd.prog Tryd.laysM145_ren := {
  mixed := by kernel_rfl
  f145 := Tryd.func55.trans (congrArg some (by kernel_rfl))
  f217 := Tryd.func71.trans (congrArg some (by kernel_rfl))
  f219 := Tryd.func68.trans (congrArg some (by kernel_rfl))
  f220 := Tryd.func63.trans (congrArg some (by kernel_rfl))
  f224 := Tryd.func66.trans (congrArg some (by kernel_rfl))
  f225 := Tryd.func67.trans (congrArg some (by kernel_rfl))
  f266 := Tryd.func76.trans (congrArg some (by kernel_rfl))
  f267 := Tryd.func72.trans (congrArg some (by kernel_rfl))
  f314 := Tryd.func77.trans (congrArg some (by kernel_rfl))
  t3 := Tryd.underlying3
  a3 := Tryd.isAgg3
  z3 := Tryd.sizeOf3
  v3 := Tryd.zeroValue3
  t4 := Tryd.underlying4
  a4 := Tryd.isAgg4
  z4 := Tryd.sizeOf4
  v4 := Tryd.zeroValue4
  t5 := Tryd.underlying5
  a5 := Tryd.isAgg5
  z5 := Tryd.sizeOf5
  v5 := Tryd.zeroValue5
  t9 := Tryd.underlying9
  a9 := Tryd.isAgg9
  z9 := Tryd.sizeOf9
  v9 := Tryd.zeroValue9
  t46 := Tryd.underlying99
  a46 := Tryd.isAgg99
  z46 := Tryd.sizeOf99
  v46 := Tryd.zeroValue99
  t51 := Tryd.underlying104
  a51 := Tryd.isAgg104
  z51 := Tryd.sizeOf104
  v51 := Tryd.zeroValue104
  t59 := Tryd.underlying76
  a59 := Tryd.isAgg76
  z59 := Tryd.sizeOf76
  v59 := Tryd.zeroValue76
  t146 := Tryd.underlying105
  a146 := Tryd.isAgg105
  z146 := Tryd.sizeOf105
  v146 := Tryd.zeroValue105
  g1 := by kernel_rfl
  i3 := by kernel_rfl
  i4 := by kernel_rfl
  i5 := by kernel_rfl
  i9 := by kernel_rfl
  i46 := by kernel_rfl
  i51 := by kernel_rfl
  i59 := by kernel_rfl
  i146 := by kernel_rfl
  m1 := by kernel_rfl
  s1_3 := fun w h => Go.Proofs.cell_of_shapedOpen_int (zero := #[.int .i64 0]) (t := 3) h (of_decide_eq_true (by kernel_rfl)) (by kernel_rfl) rfl (by kernel_rfl) (by kernel_rfl) Tryd.underlying3 }
open Go.RowKit Go.Lib in
theorem Tryd.strings_Cut_shaped (s sep : ByteArray) (w : World) (h : w.ShapedOpen Tryd.prog) (hs : s.size < 4294967281) :
    Calls Tryd.prog 55 #[.string s, .string sep] w fun e w' => e = .returned (.tuple #[.string ⟨(Lib.cut s.data.toList sep.data.toList).1.toArray⟩, .string ⟨(Lib.cut s.data.toList sep.data.toList).2.1.toArray⟩, .bool (Lib.cut s.data.toList sep.data.toList).2.2]) ∧ ∃ n, w' = w.drewN n := Any.strings_Cut_shaped Tryd.laysM145 s sep w h hs
def Tryd.laysM138_ren : Go.Shelf.Ren := ⟨fun | 138 => 69 | 195 => 73 | 218 => 74 | 143 => 60 | 219 => 68 | 217 => 71 | 225 => 67 | 224 => 66 | 267 => 72 | 266 => 76 | 314 => 77 | n => n, fun | 9 => 9 | 3 => 3 | 4 => 4 | 5 => 5 | 0 => 0 | 46 => 99 | 146 => 105 | 51 => 104 | n => n, fun | 1 => 0 | n => n⟩
theorem Tryd.laysM138 : Go.Proofs.LaysM.n138 Tryd.prog Tryd.laysM138_ren := {
  mixed := by kernel_rfl
  f138 := Tryd.func69.trans (congrArg some (by kernel_rfl))
  f143 := Tryd.func60.trans (congrArg some (by kernel_rfl))
  f195 := Tryd.func73.trans (congrArg some (by kernel_rfl))
  f217 := Tryd.func71.trans (congrArg some (by kernel_rfl))
  f218 := Tryd.func74.trans (congrArg some (by kernel_rfl))
  f219 := Tryd.func68.trans (congrArg some (by kernel_rfl))
  f224 := Tryd.func66.trans (congrArg some (by kernel_rfl))
  f225 := Tryd.func67.trans (congrArg some (by kernel_rfl))
  f266 := Tryd.func76.trans (congrArg some (by kernel_rfl))
  f267 := Tryd.func72.trans (congrArg some (by kernel_rfl))
  f314 := Tryd.func77.trans (congrArg some (by kernel_rfl))
  t0 := Tryd.underlying0
  a0 := Tryd.isAgg0
  z0 := Tryd.sizeOf0
  v0 := Tryd.zeroValue0
  t3 := Tryd.underlying3
  a3 := Tryd.isAgg3
  z3 := Tryd.sizeOf3
  v3 := Tryd.zeroValue3
  t4 := Tryd.underlying4
  a4 := Tryd.isAgg4
  z4 := Tryd.sizeOf4
  v4 := Tryd.zeroValue4
  t5 := Tryd.underlying5
  a5 := Tryd.isAgg5
  z5 := Tryd.sizeOf5
  v5 := Tryd.zeroValue5
  t9 := Tryd.underlying9
  a9 := Tryd.isAgg9
  z9 := Tryd.sizeOf9
  v9 := Tryd.zeroValue9
  t46 := Tryd.underlying99
  a46 := Tryd.isAgg99
  z46 := Tryd.sizeOf99
  v46 := Tryd.zeroValue99
  t51 := Tryd.underlying104
  a51 := Tryd.isAgg104
  z51 := Tryd.sizeOf104
  v51 := Tryd.zeroValue104
  t146 := Tryd.underlying105
  a146 := Tryd.isAgg105
  z146 := Tryd.sizeOf105
  v146 := Tryd.zeroValue105
  g1 := by kernel_rfl
  i0 := by kernel_rfl
  i3 := by kernel_rfl
  i4 := by kernel_rfl
  i5 := by kernel_rfl
  i9 := by kernel_rfl
  i46 := by kernel_rfl
  i51 := by kernel_rfl
  i146 := by kernel_rfl
  m1 := by kernel_rfl
  s1_3 := fun w h => Go.Proofs.cell_of_shapedOpen_int (zero := #[.int .i64 0]) (t := 3) h (of_decide_eq_true (by kernel_rfl)) (by kernel_rfl) rfl (by kernel_rfl) (by kernel_rfl) Tryd.underlying3 }
open Go.RowKit Go.Lib in
theorem Tryd.strings_Count_shaped (s sub : ByteArray) (w : World) (h : w.ShapedOpen Tryd.prog) (hs : s.size < 4294967281) (h2 : 2 ≤ sub.size) :
    Calls Tryd.prog 69 #[.string s, .string sub] w fun e w' => e = .returned (.int .i64 (Lib.countB s sub)) ∧ w' = w := Any.strings_Count_shaped Tryd.laysM138 s sub w h hs h2
def Tryd.lays206_ren : Go.Shelf.Ren := ⟨fun | 206 => 54 | n => n, fun | 9 => 9 | 4 => 4 | 3 => 3 | n => n, fun | n => n⟩
theorem Tryd.lays206 : Go.Proofs.Lays.n206 Tryd.prog Tryd.lays206_ren := {
  mixed := by kernel_rfl
  f206 := Tryd.func54.trans (congrArg some (by kernel_rfl))
  t3 := Tryd.underlying3
  a3 := Tryd.isAgg3
  z3 := Tryd.sizeOf3
  v3 := Tryd.zeroValue3
  t4 := Tryd.underlying4
  a4 := Tryd.isAgg4
  z4 := Tryd.sizeOf4
  v4 := Tryd.zeroValue4
  t9 := Tryd.underlying9
  a9 := Tryd.isAgg9
  z9 := Tryd.sizeOf9
  v9 := Tryd.zeroValue9 }
open Go.RowKit Go.Lib in
theorem Tryd.stringslite_HasPrefix (s p : ByteArray) (w : World) :
    Calls Tryd.prog 54 #[.string s, .string p] w fun e w' => e = .returned (.bool (Lib.hasPrefix s.data.toList p.data.toList)) ∧ w' = w := Any.stringslite_HasPrefix Tryd.lays206 s p w
def Tryd.lays99_ren : Go.Shelf.Ren := ⟨fun | 99 => 45 | 206 => 54 | n => n, fun | 9 => 9 | 4 => 4 | 3 => 3 | n => n, fun | n => n⟩
theorem Tryd.lays99 : Go.Proofs.Lays.n99 Tryd.prog Tryd.lays99_ren := {
  mixed := by kernel_rfl
  f99 := Tryd.func45.trans (congrArg some (by kernel_rfl))
  f206 := Tryd.func54.trans (congrArg some (by kernel_rfl))
  t3 := Tryd.underlying3
  a3 := Tryd.isAgg3
  z3 := Tryd.sizeOf3
  v3 := Tryd.zeroValue3
  t4 := Tryd.underlying4
  a4 := Tryd.isAgg4
  z4 := Tryd.sizeOf4
  v4 := Tryd.zeroValue4
  t9 := Tryd.underlying9
  a9 := Tryd.isAgg9
  z9 := Tryd.sizeOf9
  v9 := Tryd.zeroValue9 }
open Go.RowKit Go.Lib in
theorem Tryd.strings_HasPrefix (s p : ByteArray) (w : World) :
    Calls Tryd.prog 45 #[.string s, .string p] w fun e w' => e = .returned (.bool (Lib.hasPrefix s.data.toList p.data.toList)) ∧ w' = w := Any.strings_HasPrefix Tryd.lays99 s p w
open Go.RowKit Go.Lib in
theorem Tryd.strings_Count_any (s sep : ByteArray) (m : Int) (w : World) (hs : s.size < 4294967281) (hm : w.cell? ⟨0, 0, none⟩ = some (.int .i64 m)) (h1 : 1 ≤ sep.size) :
    Calls Tryd.prog 69 #[.string s, .string sep] w fun e w' => e = .returned (.int .i64 (Lib.countB s sep)) ∧ w' = w := Any.strings_Count_any Tryd.lays138 s sep m w hs hm h1
def Tryd.lays154_ren : Go.Shelf.Ren := ⟨fun | 154 => 61 | 138 => 69 | 165 => 44 | 143 => 60 | 166 => 19 | 197 => 70 | 169 => 21 | 195 => 73 | 218 => 74 | 240 => 30 | 241 => 53 | 219 => 68 | 260 => 75 | 276 => 41 | 277 => 62 | 217 => 71 | 225 => 67 | 224 => 66 | 267 => 72 | 266 => 76 | 314 => 77 | n => n, fun | 9 => 9 | 3 => 3 | 4 => 4 | 72 => 49 | 0 => 0 | 76 => 50 | 105 => 101 | 21 => 21 | 5 => 5 | 70 => 46 | 20 => 20 | 37 => 47 | 75 => 26 | 127 => 74 | 164 => 79 | 46 => 99 | 119 => 107 | 139 => 110 | 138 => 109 | 146 => 105 | 51 => 104 | 80 => 53 | n => n, fun | 1 => 0 | 3 => 1 | 4 => 2 | n => n⟩
theorem Tryd.lays154 : Go.Proofs.Lays.n154 Tryd.prog Tryd.lays154_ren := {
  mixed := by kernel_rfl
  f138 := Tryd.func69.trans (congrArg some (by kernel_rfl))
  f143 := Tryd.func60.trans (congrArg some (by kernel_rfl))
  f154 := Tryd.func61.trans (congrArg some (by kernel_rfl))
  f165 := Tryd.func44.trans (congrArg some (by kernel_rfl))
  f166 := Tryd.func19.trans (congrArg some (by kernel_rfl))
  f169 := Tryd.func21.trans (congrArg some (by kernel_rfl))
  f195 := Tryd.func73.trans (congrArg some (by kernel_rfl))
  f197 := Tryd.func70.trans (congrArg some (by kernel_rfl))
  f217 := Tryd.func71.trans (congrArg some (by kernel_rfl))
  f218 := Tryd.func74.trans (congrArg some (by kernel_rfl))
  f219 := Tryd.func68.trans (congrArg some (by kernel_rfl))
  f224 := Tryd.func66.trans (congrArg some (by kernel_rfl))
  f225 := Tryd.func67.trans (congrArg some (by kernel_rfl))
  f240 := Tryd.func30.trans (congrArg some (by kernel_rfl))
  f241 := Tryd.func53.trans (congrArg some (by kernel_rfl))
  f260 := Tryd.func75.trans (congrArg some (by kernel_rfl))
  f266 := Tryd.func76.trans (congrArg some (by kernel_rfl))
  f267 := Tryd.func72.trans (congrArg some (by kernel_rfl))
  f276 := Tryd.func41.trans (congrArg some (by kernel_rfl))
  f277 := Tryd.func62.trans (congrArg some (by kernel_rfl))
  f314 := Tryd.func77.trans (congrArg some (by kernel_rfl))
  t0 := Tryd.underlying0
  a0 := Tryd.isAgg0
  z0 := Tryd.sizeOf0
  v0 := Tryd.zeroValue0
  t3 := Tryd.underlying3
  a3 := Tryd.isAgg3
  z3 := Tryd.sizeOf3
  v3 := Tryd.zeroValue3
  t4 := Tryd.underlying4
  a4 := Tryd.isAgg4
  z4 := Tryd.sizeOf4
  v4 := Tryd.zeroValue4
  t5 := Tryd.underlying5
  a5 := Tryd.isAgg5
  z5 := Tryd.sizeOf5
  v5 := Tryd.zeroValue5
  t9 := Tryd.underlying9
  a9 := Tryd.isAgg9
  z9 := Tryd.sizeOf9
  v9 := Tryd.zeroValue9
  t20 := Tryd.underlying20
  a20 := Tryd.isAgg20
  z20 := Tryd.sizeOf20
  v20 := Tryd.zeroValue20
  t21 := Tryd.underlying21
  a21 := Tryd.isAgg21
  z21 := Tryd.sizeOf21
  v21 := Tryd.zeroValue21
  t37 := Tryd.underlying47
  a37 := Tryd.isAgg47
  z37 := Tryd.sizeOf47
  v37 := Tryd.zeroValue47
  t46 := Tryd.underlying99
  a46 := Tryd.isAgg99
  z46 := Tryd.sizeOf99
  v46 := Tryd.zeroValue99
  t51 := Tryd.underlying104
  a51 := Tryd.isAgg104
  z51 := Tryd.sizeOf104
  v51 := Tryd.zeroValue104
  t70 := Tryd.underlying46
  a70 := Tryd.isAgg46
  z70 := Tryd.sizeOf46
  v70 := Tryd.zeroValue46
  t72 := Tryd.underlying49
  a72 := Tryd.isAgg49
  z72 := Tryd.sizeOf49
  v72 := Tryd.zeroValue49
  t75 := Tryd.underlying26
  a75 := Tryd.isAgg26
  z75 := Tryd.sizeOf26
  v75 := Tryd.zeroValue26
  t76 := Tryd.underlying50
  a76 := Tryd.isAgg50
  z76 := Tryd.sizeOf50
  v76 := Tryd.zeroValue50
  t105 := Tryd.underlying101
  a105 := Tryd.isAgg101
  z105 := Tryd.sizeOf101
  v105 := Tryd.zeroValue101
  t119 := Tryd.underlying107
  a119 := Tryd.isAgg107
  z119 := Tryd.sizeOf107
  t127 := Tryd.underlying74
  a127 := Tryd.isAgg74
  z127 := Tryd.sizeOf74
  v127 := Tryd.zeroValue74
  t138 := Tryd.underlying109
  a138 := Tryd.isAgg109
  z138 := Tryd.sizeOf109
  v138 := Tryd.zeroValue109
  t139 := Tryd.underlying110
  a139 := Tryd.isAgg110
  z139 := Tryd.sizeOf110
  v139 := Tryd.zeroValue110
  t146 := Tryd.underlying105
  a146 := Tryd.isAgg105
  z146 := Tryd.sizeOf105
  v146 := Tryd.zeroValue105
  t164 := Tryd.underlying79
  a164 := Tryd.isAgg79
  z164 := Tryd.sizeOf79
  v164 := Tryd.zeroValue79
  g1 := by kernel_rfl
  g3 := by kernel_rfl
  g4 := by kernel_rfl }
theorem Tryd.Builder_Extra_154 : Builder.Extra Tryd.prog Tryd.lays154_ren := {
  sizeBuilder := by kernel_rfl
  liesBuilder := by kernel_rfl
  t5 := Tryd.underlying5
  a5 := Tryd.isAgg5
  z5 := Tryd.sizeOf5
  v5 := Tryd.zeroValue5
  infoByte := by kernel_rfl
  cellsByte := by kernel_rfl
  sizeByte := by kernel_rfl
  neB5 := by decide }
open Go.RowKit Go.Lib in
theorem Tryd.strings_Replace_some (s old new : ByteArray) (n : Int) (m : Int) (w : World) (hs : s.size < 4294967281) (hm : w.cell? ⟨0, 0, none⟩ = some (.int .i64 m)) (h1 : 1 ≤ old.size) (hne : old ≠ new) (hn0 : n ≠ 0) (hc0 : Lib.countB s old ≠ 0) (hlen : s.size + Lib.countB s old * new.size ≤ 140737488355328) :
    Calls Tryd.prog 61 #[.string s, .string old, .string new, .int .i64 n] w fun e w' =>
      e = .returned (.string ⟨(Lib.replaceK old.data.toList new.data.toList (Lib.replaceNum s.data.toList old.data.toList n) s.data.toList).toArray⟩) ∧ Below w.heap.size w w' := Any.strings_Replace_some Tryd.lays154 Tryd.Builder_Extra_154 s old new n m w hs hm h1 hne hn0 hc0 hlen
open Go.RowKit Go.Lib in
theorem Tryd.strings_Replace_none (s old new : ByteArray) (n : Int) (w : World) (h : old = new ∨ n = 0) :
    Calls Tryd.prog 61 #[.string s, .string old, .string new, .int .i64 n] w fun e w' => e = .returned (.string s) ∧ w' = w := Any.strings_Replace_none Tryd.lays154 s old new n w h
open Go.RowKit Go.Lib in
theorem Tryd.strings_Replace_absent (s old new : ByteArray) (n : Int) (m : Int) (w : World) (hs : s.size < 4294967281) (hm : w.cell? ⟨0, 0, none⟩ = some (.int .i64 m)) (h1 : 1 ≤ old.size) (hne : old ≠ new) (hn0 : n ≠ 0) (hc0 : Lib.countB s old = 0) :
    Calls Tryd.prog 61 #[.string s, .string old, .string new, .int .i64 n] w fun e w' => e = .returned (.string s) ∧ w' = w := Any.strings_Replace_absent Tryd.lays154 s old new n m w hs hm h1 hne hn0 hc0
open Go.RowKit Go.Lib in
theorem Tryd.strings_Replace (s old new : ByteArray) (n : Int) (m : Int) (w : World) (hs : s.size < 4294967281) (hm : w.cell? ⟨0, 0, none⟩ = some (.int .i64 m)) (h1 : 1 ≤ old.size) (hlen : s.size + Lib.countB s old * new.size ≤ 140737488355328) :
    Calls Tryd.prog 61 #[.string s, .string old, .string new, .int .i64 n] w fun e w' =>
      e = .returned (.string ⟨(Lib.replace s.data.toList old.data.toList new.data.toList n).toArray⟩) ∧ Below w.heap.size w w' := Any.strings_Replace Tryd.lays154 Tryd.Builder_Extra_154 s old new n m w hs hm h1 hlen
def Tryd.lays155_ren : Go.Shelf.Ren := ⟨fun | 155 => 52 | 154 => 61 | 138 => 69 | 165 => 44 | 143 => 60 | 166 => 19 | 197 => 70 | 169 => 21 | 195 => 73 | 218 => 74 | 240 => 30 | 241 => 53 | 219 => 68 | 260 => 75 | 276 => 41 | 277 => 62 | 217 => 71 | 225 => 67 | 224 => 66 | 267 => 72 | 266 => 76 | 314 => 77 | n => n, fun | 9 => 9 | 3 => 3 | 4 => 4 | 72 => 49 | 0 => 0 | 76 => 50 | 105 => 101 | 21 => 21 | 5 => 5 | 70 => 46 | 20 => 20 | 37 => 47 | 75 => 26 | 127 => 74 | 164 => 79 | 46 => 99 | 119 => 107 | 139 => 110 | 138 => 109 | 146 => 105 | 51 => 104 | 80 => 53 | n => n, fun | 1 => 0 | 3 => 1 | 4 => 2 | n => n⟩
theorem Tryd.lays155 : Go.Proofs.Lays.n155 Tryd.prog Tryd.lays155_ren := {
  mixed := by kernel_rfl
  f138 := Tryd.func69.trans (congrArg some (by kernel_rfl))
  f143 := Tryd.func60.trans (congrArg some (by kernel_rfl))
  f154 := Tryd.func61.trans (congrArg some (by kernel_rfl))
  f155 := Tryd.func52.trans (congrArg some (by kernel_rfl))
  f165 := Tryd.func44.trans (congrArg some (by kernel_rfl))
  f166 := Tryd.func19.trans (congrArg some (by kernel_rfl))
  f169 := Tryd.func21.trans (congrArg some (by kernel_rfl))
  f195 := Tryd.func73.trans (congrArg some (by kernel_rfl))
  f197 := Tryd.func70.trans (congrArg some (by kernel_rfl))
  f217 := Tryd.func71.trans (congrArg some (by kernel_rfl))
  f218 := Tryd.func74.trans (congrArg some (by kernel_rfl))
  f219 := Tryd.func68.trans (congrArg some (by kernel_rfl))
  f224 := Tryd.func66.trans (congrArg some (by kernel_rfl))
  f225 := Tryd.func67.trans (congrArg some (by kernel_rfl))
  f240 := Tryd.func30.trans (congrArg some (by kernel_rfl))
  f241 := Tryd.func53.trans (congrArg some (by kernel_rfl))
  f260 := Tryd.func75.trans (congrArg some (by kernel_rfl))
  f266 := Tryd.func76.trans (congrArg some (by kernel_rfl))
  f267 := Tryd.func72.trans (congrArg some (by kernel_rfl))
  f276 := Tryd.func41.trans (congrArg some (by kernel_rfl))
  f277 := Tryd.func62.trans (congrArg some (by kernel_rfl))
  f314 := Tryd.func77.trans (congrArg some (by kernel_rfl))
  t0 := Tryd.underlying0
  a0 := Tryd.isAgg0
  z0 := Tryd.sizeOf0
  v0 := Tryd.zeroValue0
  t3 := Tryd.underlying3
  a3 := Tryd.isAgg3
  z3 := Tryd.sizeOf3
  v3 := Tryd.zeroValue3
  t4 := Tryd.underlying4
  a4 := Tryd.isAgg4
  z4 := Tryd.sizeOf4
  v4 := Tryd.zeroValue4
  t5 := Tryd.underlying5
  a5 := Tryd.isAgg5
  z5 := Tryd.sizeOf5
  v5 := Tryd.zeroValue5
  t9 := Tryd.underlying9
  a9 := Tryd.isAgg9
  z9 := Tryd.sizeOf9
  v9 := Tryd.zeroValue9
  t20 := Tryd.underlying20
  a20 := Tryd.isAgg20
  z20 := Tryd.sizeOf20
  v20 := Tryd.zeroValue20
  t21 := Tryd.underlying21
  a21 := Tryd.isAgg21
  z21 := Tryd.sizeOf21
  v21 := Tryd.zeroValue21
  t37 := Tryd.underlying47
  a37 := Tryd.isAgg47
  z37 := Tryd.sizeOf47
  v37 := Tryd.zeroValue47
  t46 := Tryd.underlying99
  a46 := Tryd.isAgg99
  z46 := Tryd.sizeOf99
  v46 := Tryd.zeroValue99
  t51 := Tryd.underlying104
  a51 := Tryd.isAgg104
  z51 := Tryd.sizeOf104
  v51 := Tryd.zeroValue104
  t70 := Tryd.underlying46
  a70 := Tryd.isAgg46
  z70 := Tryd.sizeOf46
  v70 := Tryd.zeroValue46
  t72 := Tryd.underlying49
  a72 := Tryd.isAgg49
  z72 := Tryd.sizeOf49
  v72 := Tryd.zeroValue49
  t75 := Tryd.underlying26
  a75 := Tryd.isAgg26
  z75 := Tryd.sizeOf26
  v75 := Tryd.zeroValue26
  t76 := Tryd.underlying50
  a76 := Tryd.isAgg50
  z76 := Tryd.sizeOf50
  v76 := Tryd.zeroValue50
  t105 := Tryd.underlying101
  a105 := Tryd.isAgg101
  z105 := Tryd.sizeOf101
  v105 := Tryd.zeroValue101
  t119 := Tryd.underlying107
  a119 := Tryd.isAgg107
  z119 := Tryd.sizeOf107
  t127 := Tryd.underlying74
  a127 := Tryd.isAgg74
  z127 := Tryd.sizeOf74
  v127 := Tryd.zeroValue74
  t138 := Tryd.underlying109
  a138 := Tryd.isAgg109
  z138 := Tryd.sizeOf109
  v138 := Tryd.zeroValue109
  t139 := Tryd.underlying110
  a139 := Tryd.isAgg110
  z139 := Tryd.sizeOf110
  v139 := Tryd.zeroValue110
  t146 := Tryd.underlying105
  a146 := Tryd.isAgg105
  z146 := Tryd.sizeOf105
  v146 := Tryd.zeroValue105
  t164 := Tryd.underlying79
  a164 := Tryd.isAgg79
  z164 := Tryd.sizeOf79
  v164 := Tryd.zeroValue79
  g1 := by kernel_rfl
  g3 := by kernel_rfl
  g4 := by kernel_rfl }
theorem Tryd.Builder_Extra_155 : Builder.Extra Tryd.prog Tryd.lays155_ren := {
  sizeBuilder := by kernel_rfl
  liesBuilder := by kernel_rfl
  t5 := Tryd.underlying5
  a5 := Tryd.isAgg5
  z5 := Tryd.sizeOf5
  v5 := Tryd.zeroValue5
  infoByte := by kernel_rfl
  cellsByte := by kernel_rfl
  sizeByte := by kernel_rfl
  neB5 := by decide }
open Go.RowKit Go.Lib in
theorem Tryd.strings_ReplaceAll (s old new : ByteArray) (m : Int) (w : World) (hs : s.size < 4294967281) (hm : w.cell? ⟨0, 0, none⟩ = some (.int .i64 m)) (h1 : 1 ≤ old.size) (hlen : s.size + Lib.countB s old * new.size ≤ 140737488355328) :
    Calls Tryd.prog 52 #[.string s, .string old, .string new] w fun e w' =>
      e = .returned (.string ⟨(Lib.replaceAll s.data.toList old.data.toList new.data.toList).toArray⟩) ∧ Below w.heap.size w w' := Any.strings_ReplaceAll Tryd.lays155 Tryd.Builder_Extra_155 s old new m w hs hm h1 hlen
def Tryd.laysM154_ren : Go.Shelf.Ren := ⟨fun | 154 => 61 | 138 => 69 | 165 => 44 | 143 => 60 | 166 => 19 | 197 => 70 | 169 => 21 | 195 => 73 | 218 => 74 | 240 => 30 | 241 => 53 | 219 => 68 | 260 => 75 | 276 => 41 | 277 => 62 | 217 => 71 | 225 => 67 | 224 => 66 | 267 => 72 | 266 => 76 | 314 => 77 | n => n, fun | 9 => 9 | 3 => 3 | 4 => 4 | 72 => 49 | 0 => 0 | 76 => 50 | 105 => 101 | 21 => 21 | 5 => 5 | 70 => 46 | 20 => 20 | 37 => 47 | 75 => 26 | 127 => 74 | 164 => 79 | 46 => 99 | 119 => 107 | 139 => 110 | 138 => 109 | 146 => 105 | 51 => 104 | 80 => 53 | n => n, fun | 1 => 0 | 3 => 1 | 4 => 2 | n => n⟩
theorem Tryd.laysM154 : Go.Proofs.LaysM.n154 Tryd.prog Tryd.laysM154_ren := {
  mixed := by kernel_rfl
  f138 := Tryd.func69.trans (congrArg some (by kernel_rfl))
  f143 := Tryd.func60.trans (congrArg some (by kernel_rfl))
  f154 := Tryd.func61.trans (congrArg some (by kernel_rfl))
  f165 := Tryd.func44.trans (congrArg some (by kernel_rfl))
  f166 := Tryd.func19.trans (congrArg some (by kernel_rfl))
  f169 := Tryd.func21.trans (congrArg some (by kernel_rfl))
  f195 := Tryd.func73.trans (congrArg some (by kernel_rfl))
  f197 := Tryd.func70.trans (congrArg some (by kernel_rfl))
  f217 := Tryd.func71.trans (congrArg some (by kernel_rfl))
  f218 := Tryd.func74.trans (congrArg some (by kernel_rfl))
  f219 := Tryd.func68.trans (congrArg some (by kernel_rfl))
  f224 := Tryd.func66.trans (congrArg some (by kernel_rfl))
  f225 := Tryd.func67.trans (congrArg some (by kernel_rfl))
  f240 := Tryd.func30.trans (congrArg some (by kernel_rfl))
  f241 := Tryd.func53.trans (congrArg some (by kernel_rfl))
  f260 := Tryd.func75.trans (congrArg some (by kernel_rfl))
  f266 := Tryd.func76.trans (congrArg some (by kernel_rfl))
  f267 := Tryd.func72.trans (congrArg some (by kernel_rfl))
  f276 := Tryd.func41.trans (congrArg some (by kernel_rfl))
  f277 := Tryd.func62.trans (congrArg some (by kernel_rfl))
  f314 := Tryd.func77.trans (congrArg some (by kernel_rfl))
  t0 := Tryd.underlying0
  a0 := Tryd.isAgg0
  z0 := Tryd.sizeOf0
  v0 := Tryd.zeroValue0
  t3 := Tryd.underlying3
  a3 := Tryd.isAgg3
  z3 := Tryd.sizeOf3
  v3 := Tryd.zeroValue3
  t4 := Tryd.underlying4
  a4 := Tryd.isAgg4
  z4 := Tryd.sizeOf4
  v4 := Tryd.zeroValue4
  t5 := Tryd.underlying5
  a5 := Tryd.isAgg5
  z5 := Tryd.sizeOf5
  v5 := Tryd.zeroValue5
  t9 := Tryd.underlying9
  a9 := Tryd.isAgg9
  z9 := Tryd.sizeOf9
  v9 := Tryd.zeroValue9
  t20 := Tryd.underlying20
  a20 := Tryd.isAgg20
  z20 := Tryd.sizeOf20
  v20 := Tryd.zeroValue20
  t21 := Tryd.underlying21
  a21 := Tryd.isAgg21
  z21 := Tryd.sizeOf21
  v21 := Tryd.zeroValue21
  t37 := Tryd.underlying47
  a37 := Tryd.isAgg47
  z37 := Tryd.sizeOf47
  v37 := Tryd.zeroValue47
  t46 := Tryd.underlying99
  a46 := Tryd.isAgg99
  z46 := Tryd.sizeOf99
  v46 := Tryd.zeroValue99
  t51 := Tryd.underlying104
  a51 := Tryd.isAgg104
  z51 := Tryd.sizeOf104
  v51 := Tryd.zeroValue104
  t70 := Tryd.underlying46
  a70 := Tryd.isAgg46
  z70 := Tryd.sizeOf46
  v70 := Tryd.zeroValue46
  t72 := Tryd.underlying49
  a72 := Tryd.isAgg49
  z72 := Tryd.sizeOf49
  v72 := Tryd.zeroValue49
  t75 := Tryd.underlying26
  a75 := Tryd.isAgg26
  z75 := Tryd.sizeOf26
  v75 := Tryd.zeroValue26
  t76 := Tryd.underlying50
  a76 := Tryd.isAgg50
  z76 := Tryd.sizeOf50
  v76 := Tryd.zeroValue50
  t105 := Tryd.underlying101
  a105 := Tryd.isAgg101
  z105 := Tryd.sizeOf101
  v105 := Tryd.zeroValue101
  t119 := Tryd.underlying107
  a119 := Tryd.isAgg107
  z119 := Tryd.sizeOf107
  t127 := Tryd.underlying74
  a127 := Tryd.isAgg74
  z127 := Tryd.sizeOf74
  v127 := Tryd.zeroValue74
  t138 := Tryd.underlying109
  a138 := Tryd.isAgg109
  z138 := Tryd.sizeOf109
  v138 := Tryd.zeroValue109
  t139 := Tryd.underlying110
  a139 := Tryd.isAgg110
  z139 := Tryd.sizeOf110
  v139 := Tryd.zeroValue110
  t146 := Tryd.underlying105
  a146 := Tryd.isAgg105
  z146 := Tryd.sizeOf105
  v146 := Tryd.zeroValue105
  t164 := Tryd.underlying79
  a164 := Tryd.isAgg79
  z164 := Tryd.sizeOf79
  v164 := Tryd.zeroValue79
  g1 := by kernel_rfl
  g3 := by kernel_rfl
  g4 := by kernel_rfl
  t80 := Tryd.underlying53
  a80 := Tryd.isAgg53
  z80 := Tryd.sizeOf53
  v80 := Tryd.zeroValue53
  i0 := by kernel_rfl
  i3 := by kernel_rfl
  i4 := by kernel_rfl
  i5 := by kernel_rfl
  i9 := by kernel_rfl
  i20 := by kernel_rfl
  i21 := by kernel_rfl
  i37 := by kernel_rfl
  i46 := by kernel_rfl
  i51 := by kernel_rfl
  i70 := by kernel_rfl
  i72 := by kernel_rfl
  i75 := by kernel_rfl
  i76 := by kernel_rfl
  i80 := by kernel_rfl
  i105 := by kernel_rfl
  i127 := by kernel_rfl
  i138 := by kernel_rfl
  i139 := by kernel_rfl
  i146 := by kernel_rfl
  i164 := by kernel_rfl
  m1 := by kernel_rfl
  s1_3 := fun w h => Go.Proofs.cell_of_shapedOpen_int (zero := #[.int .i64 0]) (t := 3) h (of_decide_eq_true (by kernel_rfl)) (by kernel_rfl) rfl (by kernel_rfl) (by kernel_rfl) Tryd.underlying3
  m3 := by kernel_rfl
  m4 := by kernel_rfl }
theorem Tryd.Builder_Extra_M154 : Builder.Extra Tryd.prog Tryd.laysM154_ren := {
  sizeBuilder := by kernel_rfl
  liesBuilder := by kernel_rfl
  t5 := Tryd.underlying5
  a5 := Tryd.isAgg5
  z5 := Tryd.sizeOf5
  v5 := Tryd.zeroValue5
  infoByte := by kernel_rfl
  cellsByte := by kernel_rfl
  sizeByte := by kernel_rfl
  neB5 := by decide }
open Go.RowKit Go.Lib in
theorem Tryd.strings_Replace_shaped (s old new : ByteArray) (n : Int) (w : World) (h : w.ShapedOpen Tryd.prog) (hs : s.size < 4294967281) (h1 : 1 ≤ old.size) (hlen : s.size + Lib.countB s old * new.size ≤ 140737488355328) :
    Calls Tryd.prog 61 #[.string s, .string old, .string new, .int .i64 n] w fun e w' =>
      e = .returned (.string ⟨(Lib.replace s.data.toList old.data.toList new.data.toList n).toArray⟩) ∧ Below w.heap.size w w' := Any.strings_Replace_shaped Tryd.laysM154 Tryd.Builder_Extra_M154 s old new n w h hs h1 hlen
def Tryd.laysM155_ren : Go.Shelf.Ren := ⟨fun | 155 => 52 | 154 => 61 | 138 => 69 | 165 => 44 | 143 => 60 | 166 => 19 | 197 => 70 | 169 => 21 | 195 => 73 | 218 => 74 | 240 => 30 | 241 => 53 | 219 => 68 | 260 => 75 | 276 => 41 | 277 => 62 | 217 => 71 | 225 => 67 | 224 => 66 | 267 => 72 | 266 => 76 | 314 => 77 | n => n, fun | 9 => 9 | 3 => 3 | 4 => 4 | 72 => 49 | 0 => 0 | 76 => 50 | 105 => 101 | 21 => 21 | 5 => 5 | 70 => 46 | 20 => 20 | 37 => 47 | 75 => 26 | 127 => 74 | 164 => 79 | 46 => 99 | 119 => 107 | 139 => 110 | 138 => 109 | 146 => 105 | 51 => 104 | 80 => 53 | n => n, fun | 1 => 0 | 3 => 1 | 4 => 2 | n => n⟩
theorem Tryd.laysM155 : Go.Proofs.LaysM.n155 Tryd.prog Tryd.laysM155_ren := {
  mixed := by kernel_rfl
  f138 := Tryd.func69.trans (congrArg some (by kernel_rfl))
  f143 := Tryd.func60.trans (congrArg some (by kernel_rfl))
  f154 := Tryd.func61.trans (congrArg some (by kernel_rfl))
  f155 := Tryd.func52.trans (congrArg some (by kernel_rfl))
  f165 := Tryd.func44.trans (congrArg some (by kernel_rfl))
  f166 := Tryd.func19.trans (congrArg some (by kernel_rfl))
  f169 := Tryd.func21.trans (congrArg some (by kernel_rfl))
  f195 := Tryd.func73.trans (congrArg some (by kernel_rfl))
  f197 := Tryd.func70.trans (congrArg some (by kernel_rfl))
  f217 := Tryd.func71.trans (congrArg some (by kernel_rfl))
  f218 := Tryd.func74.trans (congrArg some (by kernel_rfl))
  f219 := Tryd.func68.trans (congrArg some (by kernel_rfl))
  f224 := Tryd.func66.trans (congrArg some (by kernel_rfl))
  f225 := Tryd.func67.trans (congrArg some (by kernel_rfl))
  f240 := Tryd.func30.trans (congrArg some (by kernel_rfl))
  f241 := Tryd.func53.trans (congrArg some (by kernel_rfl))
  f260 := Tryd.func75.trans (congrArg some (by kernel_rfl))
  f266 := Tryd.func76.trans (congrArg some (by kernel_rfl))
  f267 := Tryd.func72.trans (congrArg some (by kernel_rfl))
  f276 := Tryd.func41.trans (congrArg some (by kernel_rfl))
  f277 := Tryd.func62.trans (congrArg some (by kernel_rfl))
  f314 := Tryd.func77.trans (congrArg some (by kernel_rfl))
  t0 := Tryd.underlying0
  a0 := Tryd.isAgg0
  z0 := Tryd.sizeOf0
  v0 := Tryd.zeroValue0
  t3 := Tryd.underlying3
  a3 := Tryd.isAgg3
  z3 := Tryd.sizeOf3
  v3 := Tryd.zeroValue3
  t4 := Tryd.underlying4
  a4 := Tryd.isAgg4
  z4 := Tryd.sizeOf4
  v4 := Tryd.zeroValue4
  t5 := Tryd.underlying5
  a5 := Tryd.isAgg5
  z5 := Tryd.sizeOf5
  v5 := Tryd.zeroValue5
  t9 := Tryd.underlying9
  a9 := Tryd.isAgg9
  z9 := Tryd.sizeOf9
  v9 := Tryd.zeroValue9
  t20 := Tryd.underlying20
  a20 := Tryd.isAgg20
  z20 := Tryd.sizeOf20
  v20 := Tryd.zeroValue20
  t21 := Tryd.underlying21
  a21 := Tryd.isAgg21
  z21 := Tryd.sizeOf21
  v21 := Tryd.zeroValue21
  t37 := Tryd.underlying47
  a37 := Tryd.isAgg47
  z37 := Tryd.sizeOf47
  v37 := Tryd.zeroValue47
  t46 := Tryd.underlying99
  a46 := Tryd.isAgg99
  z46 := Tryd.sizeOf99
  v46 := Tryd.zeroValue99
  t51 := Tryd.underlying104
  a51 := Tryd.isAgg104
  z51 := Tryd.sizeOf104
  v51 := Tryd.zeroValue104
  t70 := Tryd.underlying46
  a70 := Tryd.isAgg46
  z70 := Tryd.sizeOf46
  v70 := Tryd.zeroValue46
  t72 := Tryd.underlying49
  a72 := Tryd.isAgg49
  z72 := Tryd.sizeOf49
  v72 := Tryd.zeroValue49
  t75 := Tryd.underlying26
  a75 := Tryd.isAgg26
  z75 := Tryd.sizeOf26
  v75 := Tryd.zeroValue26
  t76 := Tryd.underlying50
  a76 := Tryd.isAgg50
  z76 := Tryd.sizeOf50
  v76 := Tryd.zeroValue50
  t105 := Tryd.underlying101
  a105 := Tryd.isAgg101
  z105 := Tryd.sizeOf101
  v105 := Tryd.zeroValue101
  t119 := Tryd.underlying107
  a119 := Tryd.isAgg107
  z119 := Tryd.sizeOf107
  t127 := Tryd.underlying74
  a127 := Tryd.isAgg74
  z127 := Tryd.sizeOf74
  v127 := Tryd.zeroValue74
  t138 := Tryd.underlying109
  a138 := Tryd.isAgg109
  z138 := Tryd.sizeOf109
  v138 := Tryd.zeroValue109
  t139 := Tryd.underlying110
  a139 := Tryd.isAgg110
  z139 := Tryd.sizeOf110
  v139 := Tryd.zeroValue110
  t146 := Tryd.underlying105
  a146 := Tryd.isAgg105
  z146 := Tryd.sizeOf105
  v146 := Tryd.zeroValue105
  t164 := Tryd.underlying79
  a164 := Tryd.isAgg79
  z164 := Tryd.sizeOf79
  v164 := Tryd.zeroValue79
  g1 := by kernel_rfl
  g3 := by kernel_rfl
  g4 := by kernel_rfl
  t80 := Tryd.underlying53
  a80 := Tryd.isAgg53
  z80 := Tryd.sizeOf53
  v80 := Tryd.zeroValue53
  i0 := by kernel_rfl
  i3 := by kernel_rfl
  i4 := by kernel_rfl
  i5 := by kernel_rfl
  i9 := by kernel_rfl
  i20 := by kernel_rfl
  i21 := by kernel_rfl
  i37 := by kernel_rfl
  i46 := by kernel_rfl
  i51 := by kernel_rfl
  i70 := by kernel_rfl
  i72 := by kernel_rfl
  i75 := by kernel_rfl
  i76 := by kernel_rfl
  i80 := by kernel_rfl
  i105 := by kernel_rfl
  i127 := by kernel_rfl
  i138 := by kernel_rfl
  i139 := by kernel_rfl
  i146 := by kernel_rfl
  i164 := by kernel_rfl
  m1 := by kernel_rfl
  s1_3 := fun w h => Go.Proofs.cell_of_shapedOpen_int (zero := #[.int .i64 0]) (t := 3) h (of_decide_eq_true (by kernel_rfl)) (by kernel_rfl) rfl (by kernel_rfl) (by kernel_rfl) Tryd.underlying3
  m3 := by kernel_rfl
  m4 := by kernel_rfl }
theorem Tryd.Builder_Extra_M155 : Builder.Extra Tryd.prog Tryd.laysM155_ren := {
  sizeBuilder := by kernel_rfl
  liesBuilder := by kernel_rfl
  t5 := Tryd.underlying5
  a5 := Tryd.isAgg5
  z5 := Tryd.sizeOf5
  v5 := Tryd.zeroValue5
  infoByte := by kernel_rfl
  cellsByte := by kernel_rfl
  sizeByte := by kernel_rfl
  neB5 := by decide }
open Go.RowKit Go.Lib in
theorem Tryd.strings_ReplaceAll_shaped (s old new : ByteArray) (w : World) (h : w.ShapedOpen Tryd.prog) (hs : s.size < 4294967281) (h1 : 1 ≤ old.size) (hlen : s.size + Lib.countB s old * new.size ≤ 140737488355328) :
    Calls Tryd.prog 52 #[.string s, .string old, .string new] w fun e w' =>
      e = .returned (.string ⟨(Lib.replaceAll s.data.toList old.data.toList new.data.toList).toArray⟩) ∧ Below w.heap.size w w' := Any.strings_ReplaceAll_shaped Tryd.laysM155 Tryd.Builder_Extra_M155 s old new w h hs h1 hlen
def Tryd.lays152_ren : Go.Shelf.Ren := ⟨fun | 152 => 56 | 137 => 64 | 119 => 65 | 224 => 66 | 225 => 67 | 217 => 71 | 266 => 76 | n => n, fun | 9 => 9 | 21 => 21 | 3 => 3 | 4 => 4 | 5 => 5 | 0 => 0 | 46 => 99 | n => n, fun | n => n⟩
theorem Tryd.lays152 : Go.Proofs.Lays.n152 Tryd.prog Tryd.lays152_ren := {
  mixed := by kernel_rfl
  f119 := Tryd.func65.trans (congrArg some (by kernel_rfl))
  f137 := Tryd.func64.trans (congrArg some (by kernel_rfl))
  f152 := Tryd.func56.trans (congrArg some (by kernel_rfl))
  f217 := Tryd.func71.trans (congrArg some (by kernel_rfl))
  f224 := Tryd.func66.trans (congrArg some (by kernel_rfl))
  f225 := Tryd.func67.trans (congrArg some (by kernel_rfl))
  f266 := Tryd.func76.trans (congrArg some (by kernel_rfl))
  t0 := Tryd.underlying0
  a0 := Tryd.isAgg0
  z0 := Tryd.sizeOf0
  v0 := Tryd.zeroValue0
  t3 := Tryd.underlying3
  a3 := Tryd.isAgg3
  z3 := Tryd.sizeOf3
  v3 := Tryd.zeroValue3
  t4 := Tryd.underlying4
  a4 := Tryd.isAgg4
  z4 := Tryd.sizeOf4
  v4 := Tryd.zeroValue4
  t5 := Tryd.underlying5
  a5 := Tryd.isAgg5
  z5 := Tryd.sizeOf5
  v5 := Tryd.zeroValue5
  t9 := Tryd.underlying9
  a9 := Tryd.isAgg9
  z9 := Tryd.sizeOf9
  v9 := Tryd.zeroValue9
  t21 := Tryd.underlying21
  a21 := Tryd.isAgg21
  z21 := Tryd.sizeOf21
  v21 := Tryd.zeroValue21
  t46 := Tryd.underlying99
  a46 := Tryd.isAgg99
  z46 := Tryd.sizeOf99
  v46 := Tryd.zeroValue99 }
open Go.RowKit Go.Lib in
theorem Tryd.strings_IndexRune_ascii (s : ByteArray) (r : Int) (w : World) (h0 : 0 ≤ r) (h1 : r < 128) :
    Calls Tryd.prog 56 #[.string s, .int .i32 r] w fun e w' => e = .returned (.int .i64 (Lib.indexByte s.data.toList r.toNat.toUInt8)) ∧ w' = w := Any.strings_IndexRune_ascii Tryd.lays152 s r w h0 h1
def Tryd.lays226_ren : Go.Shelf.Ren := ⟨fun | 226 => 57 | n => n, fun | 3 => 3 | 4 => 4 | n => n, fun | n => n⟩
theorem Tryd.lays226 : Go.Proofs.Lays.n226 Tryd.prog Tryd.lays226_ren := {
  mixed := by kernel_rfl
  f226 := Tryd.func57.trans (congrArg some (by kernel_rfl))
  t3 := Tryd.underlying3
  a3 := Tryd.isAgg3
  z3 := Tryd.sizeOf3
  v3 := Tryd.zeroValue3
  t4 := Tryd.underlying4
  a4 := Tryd.isAgg4
  z4 := Tryd.sizeOf4
  v4 := Tryd.zeroValue4 }
open Go.RowKit Go.Lib in
theorem Tryd.strings_shouldUseASCIISet (n : Int) (w : World) :
    Calls Tryd.prog 57 #[.int .i64 n] w fun e w' => e = .returned (.bool (decide (8 < n))) ∧ w' = w := Any.strings_shouldUseASCIISet Tryd.lays226 n w
def Tryd.lays153_ren : Go.Shelf.Ren := ⟨fun | 153 => 47 | 152 => 56 | 226 => 57 | 227 => 58 | 228 => 59 | 137 => 64 | 119 => 65 | 224 => 66 | 225 => 67 | 217 => 71 | 266 => 76 | n => n, fun | 9 => 9 | 3 => 3 | 4 => 4 | 5 => 5 | 21 => 21 | 117 => 92 | 116 => 91 | 0 => 0 | 46 => 99 | 124 => 100 | n => n, fun | n => n⟩
theorem Tryd.lays153 : Go.Proofs.Lays.n153 Tryd.prog Tryd.lays153_ren := {
  mixed := by kernel_rfl
  f119 := Tryd.func65.trans (congrArg some (by kernel_rfl))
  f137 := Tryd.func64.trans (congrArg some (by kernel_rfl))
  f152 := Tryd.func56.trans (congrArg some (by kernel_rfl))
  f153 := Tryd.func47.trans (congrArg some (by kernel_rfl))
  f217 := Tryd.func71.trans (congrArg some (by kernel_rfl))
  f224 := Tryd.func66.trans (congrArg some (by kernel_rfl))
  f225 := Tryd.func67.trans (congrArg some (by kernel_rfl))
  f226 := Tryd.func57.trans (congrArg some (by kernel_rfl))
  f227 := Tryd.func58.trans (congrArg some (by kernel_rfl))
  f228 := Tryd.func59.trans (congrArg some (by kernel_rfl))
  f266 := Tryd.func76.trans (congrArg some (by kernel_rfl))
  t0 := Tryd.underlying0
  a0 := Tryd.isAgg0
  z0 := Tryd.sizeOf0
  v0 := Tryd.zeroValue0
  t3 := Tryd.underlying3
  a3 := Tryd.isAgg3
  z3 := Tryd.sizeOf3
  v3 := Tryd.zeroValue3
  t4 := Tryd.underlying4
  a4 := Tryd.isAgg4
  z4 := Tryd.sizeOf4
  v4 := Tryd.zeroValue4
  t5 := Tryd.underlying5
  a5 := Tryd.isAgg5
  z5 := Tryd.sizeOf5
  v5 := Tryd.zeroValue5
  t9 := Tryd.underlying9
  a9 := Tryd.isAgg9
  z9 := Tryd.sizeOf9
  v9 := Tryd.zeroValue9
  t21 := Tryd.underlying21
  a21 := Tryd.isAgg21
  z21 := Tryd.sizeOf21
  v21 := Tryd.zeroValue21
  t46 := Tryd.underlying99
  a46 := Tryd.isAgg99
  z46 := Tryd.sizeOf99
  v46 := Tryd.zeroValue99
  t116 := Tryd.underlying91
  a116 := Tryd.isAgg91
  z116 := Tryd.sizeOf91
  t117 := Tryd.underlying92
  a117 := Tryd.isAgg92
  z117 := Tryd.sizeOf92
  v117 := Tryd.zeroValue92
  t124 := Tryd.underlying100
  a124 := Tryd.isAgg100
  z124 := Tryd.sizeOf100
  v124 := Tryd.zeroValue100 }
open Go.RowKit Go.Lib in
theorem Tryd.strings_IndexAny_none (s chars : ByteArray) (w : World) (h0 : chars.size = 0) :
    Calls Tryd.prog 47 #[.string s, .string chars] w fun e w' => e = .returned (.int .i64 (Lib.indexAny s.data.toList chars.data.toList)) ∧ w' = w := Any.strings_IndexAny_none Tryd.lays153 s chars w h0
open Go.RowKit Go.Lib in
theorem Tryd.strings_IndexAny_one (s chars : ByteArray) (w : World) (h1 : chars.size = 1) (hascii : ∀ (j : Nat) b, chars.data.toList[j]? = some b → b.toNat < 128) :
    Calls Tryd.prog 47 #[.string s, .string chars] w fun e w' => e = .returned (.int .i64 (Lib.indexAny s.data.toList chars.data.toList)) ∧ w' = w := Any.strings_IndexAny_one Tryd.lays153 s chars w h1 hascii
open Go.RowKit Go.Lib in
theorem Tryd.strings_IndexAny_short (s chars : ByteArray) (w : World) (h2 : 2 ≤ chars.size) (h8 : s.size ≤ 8) (hascii : ∀ (j : Nat) b, s.data.toList[j]? = some b → b.toNat < 128) :
    Calls Tryd.prog 47 #[.string s, .string chars] w fun e w' => e = .returned (.int .i64 (Lib.indexAny s.data.toList chars.data.toList)) ∧ ∃ pos, w' = w.iter s pos := Any.strings_IndexAny_short Tryd.lays153 s chars w h2 h8 hascii
def Tryd.lays227_ren : Go.Shelf.Ren := ⟨fun | 227 => 58 | n => n, fun | 9 => 9 | 116 => 91 | 4 => 4 | 0 => 0 | 3 => 3 | 5 => 5 | n => n, fun | n => n⟩
theorem Tryd.lays227 : Go.Proofs.Lays.n227 Tryd.prog Tryd.lays227_ren := {
  mixed := by kernel_rfl
  f227 := Tryd.func58.trans (congrArg some (by kernel_rfl))
  t0 := Tryd.underlying0
  a0 := Tryd.isAgg0
  z0 := Tryd.sizeOf0
  v0 := Tryd.zeroValue0
  t3 := Tryd.underlying3
  a3 := Tryd.isAgg3
  z3 := Tryd.sizeOf3
  v3 := Tryd.zeroValue3
  t4 := Tryd.underlying4
  a4 := Tryd.isAgg4
  z4 := Tryd.sizeOf4
  v4 := Tryd.zeroValue4
  t5 := Tryd.underlying5
  a5 := Tryd.isAgg5
  z5 := Tryd.sizeOf5
  v5 := Tryd.zeroValue5
  t9 := Tryd.underlying9
  a9 := Tryd.isAgg9
  z9 := Tryd.sizeOf9
  v9 := Tryd.zeroValue9
  t116 := Tryd.underlying91
  a116 := Tryd.isAgg91
  z116 := Tryd.sizeOf91 }
open Go.RowKit Go.Lib in
theorem Tryd.strings_makeASCIISet (hv116 : ∀ w, (zeroValue 91).run Tryd.prog w = .ok (.agg (Array.replicate 256 (.bool false))) w) (chars : ByteArray) (w : World) (hs : chars.size < 4294967281) (hascii : ∀ (j : Nat) b, chars.data.toList[j]? = some b → b.toNat < 128) :
    Calls Tryd.prog 58 #[.string chars] w fun e w' => e = .returned (.tuple #[.agg (Lib.setCells chars.data.toList), .bool true]) ∧ w' = w.alloc (.cells (Lib.setCells chars.data.toList) 91) := Any.strings_makeASCIISet Tryd.lays227 hv116 (by kernel_rfl) chars w hs hascii
def Tryd.lays228_ren : Go.Shelf.Ren := ⟨fun | 228 => 59 | n => n, fun | 124 => 100 | 5 => 5 | 4 => 4 | 0 => 0 | 116 => 91 | n => n, fun | n => n⟩
theorem Tryd.lays228 : Go.Proofs.Lays.n228 Tryd.prog Tryd.lays228_ren := {
  mixed := by kernel_rfl
  f228 := Tryd.func59.trans (congrArg some (by kernel_rfl))
  t0 := Tryd.underlying0
  a0 := Tryd.isAgg0
  z0 := Tryd.sizeOf0
  v0 := Tryd.zeroValue0
  t4 := Tryd.underlying4
  a4 := Tryd.isAgg4
  z4 := Tryd.sizeOf4
  v4 := Tryd.zeroValue4
  t5 := Tryd.underlying5
  a5 := Tryd.isAgg5
  z5 := Tryd.sizeOf5
  v5 := Tryd.zeroValue5
  t116 := Tryd.underlying91
  a116 := Tryd.isAgg91
  z116 := Tryd.sizeOf91
  t124 := Tryd.underlying100
  a124 := Tryd.isAgg100
  z124 := Tryd.sizeOf100
  v124 := Tryd.zeroValue100 }
open Go.RowKit Go.Lib in
theorem Tryd.asciiSet_contains (b : Nat) (x : UInt8) (v : Bool) (w : World) (hc : w.cell? ⟨b, x.toNat, none⟩ = some (.bool v)) :
    Calls Tryd.prog 59 #[.pointer (some ⟨b, 0, none⟩), .int .u8 x.toNat] w fun e w' => e = .returned (.bool v) ∧ w' = w := Any.asciiSet_contains Tryd.lays228 b x v w hc
open Go.RowKit Go.Lib in
theorem Tryd.strings_IndexAny_long (hv116 : ∀ w, (zeroValue 91).run Tryd.prog w = .ok (.agg (Array.replicate 256 (.bool false))) w) (s chars : ByteArray) (w : World) (h2 : 2 ≤ chars.size) (h8 : 8 < s.size) (hs : s.size < 4294967281) (hcs : chars.size < 4294967281) (hascii : ∀ (j : Nat) b, chars.data.toList[j]? = some b → b.toNat < 128) :
    Calls Tryd.prog 47 #[.string s, .string chars] w fun e w' => e = .returned (.int .i64 (Lib.indexAny s.data.toList chars.data.toList)) ∧ w' = ((w.alloc (.cells (Lib.setCells chars.data.toList) 91)).alloc (.cells (Lib.setCells chars.data.toList) 91)) := Any.strings_IndexAny_long Tryd.lays153 hv116 (by kernel_rfl) s chars w h2 h8 hs hcs hascii
open Go.RowKit Go.Lib in
theorem Tryd.strings_IndexAny (hv116 : ∀ w, (zeroValue 91).run Tryd.prog w = .ok (.agg (Array.replicate 256 (.bool false))) w) (s chars : ByteArray) (w : World) (hs : s.size < 4294967281) (hcs : chars.size < 4294967281) (has : ∀ (j : Nat) b, s.data.toList[j]? = some b → b.toNat < 128) (hac : ∀ (j : Nat) b, chars.data.toList[j]? = some b → b.toNat < 128) :
    Calls Tryd.prog 47 #[.string s, .string chars] w fun e w' => e = .returned (.int .i64 (Lib.indexAny s.data.toList chars.data.toList)) ∧ Below w.heap.size w w' := Any.strings_IndexAny Tryd.lays153 hv116 (by kernel_rfl) s chars w hs hcs has hac
def Tryd.lays150_ren : Go.Shelf.Ren := ⟨fun | 150 => 42 | 153 => 47 | 152 => 56 | 226 => 57 | 227 => 58 | 228 => 59 | 137 => 64 | 119 => 65 | 224 => 66 | 225 => 67 | 217 => 71 | 266 => 76 | n => n, fun | 9 => 9 | 4 => 4 | 3 => 3 | 5 => 5 | 21 => 21 | 117 => 92 | 116 => 91 | 0 => 0 | 46 => 99 | 124 => 100 | n => n, fun | n => n⟩
theorem Tryd.lays150 : Go.Proofs.Lays.n150 Tryd.prog Tryd.lays150_ren := {
  mixed := by kernel_rfl
  f119 := Tryd.func65.trans (congrArg some (by kernel_rfl))
  f137 := Tryd.func64.trans (congrArg some (by kernel_rfl))
  f150 := Tryd.func42.trans (congrArg some (by kernel_rfl))
  f152 := Tryd.func56.trans (congrArg some (by kernel_rfl))
  f153 := Tryd.func47.trans (congrArg some (by kernel_rfl))
  f217 := Tryd.func71.trans (congrArg some (by kernel_rfl))
  f224 := Tryd.func66.trans (congrArg some (by kernel_rfl))
  f225 := Tryd.func67.trans (congrArg some (by kernel_rfl))
  f226 := Tryd.func57.trans (congrArg some (by kernel_rfl))
  f227 := Tryd.func58.trans (congrArg some (by kernel_rfl))
  f228 := Tryd.func59.trans (congrArg some (by kernel_rfl))
  f266 := Tryd.func76.trans (congrArg some (by kernel_rfl))
  t0 := Tryd.underlying0
  a0 := Tryd.isAgg0
  z0 := Tryd.sizeOf0
  v0 := Tryd.zeroValue0
  t3 := Tryd.underlying3
  a3 := Tryd.isAgg3
  z3 := Tryd.sizeOf3
  v3 := Tryd.zeroValue3
  t4 := Tryd.underlying4
  a4 := Tryd.isAgg4
  z4 := Tryd.sizeOf4
  v4 := Tryd.zeroValue4
  t5 := Tryd.underlying5
  a5 := Tryd.isAgg5
  z5 := Tryd.sizeOf5
  v5 := Tryd.zeroValue5
  t9 := Tryd.underlying9
  a9 := Tryd.isAgg9
  z9 := Tryd.sizeOf9
  v9 := Tryd.zeroValue9
  t21 := Tryd.underlying21
  a21 := Tryd.isAgg21
  z21 := Tryd.sizeOf21
  v21 := Tryd.zeroValue21
  t46 := Tryd.underlying99
  a46 := Tryd.isAgg99
  z46 := Tryd.sizeOf99
  v46 := Tryd.zeroValue99
  t116 := Tryd.underlying91
  a116 := Tryd.isAgg91
  z116 := Tryd.sizeOf91
  t117 := Tryd.underlying92
  a117 := Tryd.isAgg92
  z117 := Tryd.sizeOf92
  v117 := Tryd.zeroValue92
  t124 := Tryd.underlying100
  a124 := Tryd.isAgg100
  z124 := Tryd.sizeOf100
  v124 := Tryd.zeroValue100 }
open Go.RowKit Go.Lib in
theorem Tryd.strings_ContainsAny (hv116 : ∀ w, (zeroValue 91).run Tryd.prog w = .ok (.agg (Array.replicate 256 (.bool false))) w) (s chars : ByteArray) (w : World) (hs : s.size < 4294967281) (hcs : chars.size < 4294967281) (has : ∀ (j : Nat) b, s.data.toList[j]? = some b → b.toNat < 128) (hac : ∀ (j : Nat) b, chars.data.toList[j]? = some b → b.toNat < 128) :
    Calls Tryd.prog 42 #[.string s, .string chars] w fun e w' => e = .returned (.bool (Lib.containsAny s.data.toList chars.data.toList)) ∧ Below w.heap.size w w' := Any.strings_ContainsAny Tryd.lays150 hv116 (by kernel_rfl) s chars w hs hcs has hac
open Go.RowKit Go.Lib in
theorem Tryd.strings_IndexAny_laid (s chars : ByteArray) (w : World) (hs : s.size < 4294967281) (hcs : chars.size < 4294967281) (has : ∀ (j : Nat) b, s.data.toList[j]? = some b → b.toNat < 128) (hac : ∀ (j : Nat) b, chars.data.toList[j]? = some b → b.toNat < 128) :
    Calls Tryd.prog 47 #[.string s, .string chars] w fun e w' => e = .returned (.int .i64 (Lib.indexAny s.data.toList chars.data.toList)) ∧ Below w.heap.size w w' := Any.strings_IndexAny_laid Tryd.lays153 (by kernel_rfl) s chars w hs hcs has hac
open Go.RowKit Go.Lib in
theorem Tryd.strings_ContainsAny_laid (s chars : ByteArray) (w : World) (hs : s.size < 4294967281) (hcs : chars.size < 4294967281) (has : ∀ (j : Nat) b, s.data.toList[j]? = some b → b.toNat < 128) (hac : ∀ (j : Nat) b, chars.data.toList[j]? = some b → b.toNat < 128) :
    Calls Tryd.prog 42 #[.string s, .string chars] w fun e w' => e = .returned (.bool (Lib.containsAny s.data.toList chars.data.toList)) ∧ Below w.heap.size w w' := Any.strings_ContainsAny_laid Tryd.lays150 (by kernel_rfl) s chars w hs hcs has hac
def Tryd.lays260_ren : Go.Shelf.Ren := ⟨fun | 260 => 75 | n => n, fun | 9 => 9 | 21 => 21 | 3 => 3 | 4 => 4 | 5 => 5 | 119 => 107 | 0 => 0 | 46 => 99 | 139 => 110 | 138 => 109 | n => n, fun | 3 => 1 | 4 => 2 | n => n⟩
theorem Tryd.lays260 : Go.Proofs.Lays.n260 Tryd.prog Tryd.lays260_ren := {
  mixed := by kernel_rfl
  f260 := Tryd.func75.trans (congrArg some (by kernel_rfl))
  t0 := Tryd.underlying0
  a0 := Tryd.isAgg0
  z0 := Tryd.sizeOf0
  v0 := Tryd.zeroValue0
  t3 := Tryd.underlying3
  a3 := Tryd.isAgg3
  z3 := Tryd.sizeOf3
  v3 := Tryd.zeroValue3
  t4 := Tryd.underlying4
  a4 := Tryd.isAgg4
  z4 := Tryd.sizeOf4
  v4 := Tryd.zeroValue4
  t5 := Tryd.underlying5
  a5 := Tryd.isAgg5
  z5 := Tryd.sizeOf5
  v5 := Tryd.zeroValue5
  t9 := Tryd.underlying9
  a9 := Tryd.isAgg9
  z9 := Tryd.sizeOf9
  v9 := Tryd.zeroValue9
  t21 := Tryd.underlying21
  a21 := Tryd.isAgg21
  z21 := Tryd.sizeOf21
  v21 := Tryd.zeroValue21
  t46 := Tryd.underlying99
  a46 := Tryd.isAgg99
  z46 := Tryd.sizeOf99
  v46 := Tryd.zeroValue99
  t119 := Tryd.underlying107
  a119 := Tryd.isAgg107
  z119 := Tryd.sizeOf107
  t138 := Tryd.underlying109
  a138 := Tryd.isAgg109
  z138 := Tryd.sizeOf109
  v138 := Tryd.zeroValue109
  t139 := Tryd.underlying110
  a139 := Tryd.isAgg110
  z139 := Tryd.sizeOf110
  v139 := Tryd.zeroValue110
  g3 := by kernel_rfl
  g4 := by kernel_rfl }
open Go.RowKit Go.Lib in
theorem Tryd.utf8_decodeRuneInStringSlow (s : ByteArray) (w : World) (hT : Lib.Utf8Tabs 1 2 w) :
    Calls Tryd.prog 75 #[.string s] w fun e w' => e = .returned (.tuple #[.int .i32 (Lib.decodeGo s).1, .int .i64 (Lib.decodeGo s).2]) ∧ Below w.heap.size w w' := Any.utf8_decodeRuneInStringSlow Tryd.lays260 s w hT
end Go.Proofs
namespace Go.Proofs.YtehmiepjeffloaaDoor
open Go.RowKit
namespace Ab
theorem acall2 {P : Program} {f : FuncId} {a b u : Value} {r : A} (hfn : FnOk P f) (hr : ∀ ok w, r.rep ok noNames w u) (h : ∀ w, GlobCell w → Calls P f #[a, b] w fun e w' => e = .returned u ∧ Below w.heap.size w w') : ACall P f [.one (.lit a), .one (.lit b)] r := by
  refine ⟨hfn, fun ok w vs hg hvs => ?_⟩
  obtain ⟨v, t, rfl, hv, v2, t2, rfl, hv2, ht⟩ := hvs
  rw [show t2 = [] from ht, show v = a from hv, show v2 = b from hv2]
  refine (h w hg.2.2).mono ?_
  rintro e w' ⟨rfl, hb⟩
  exact ⟨_, rfl, hb, hr _ _⟩
theorem same_below {e : Ending} {u : Value} {w w' : World} (h : e = .returned u ∧ w' = w) : e = .returned u ∧ Below w.heap.size w w' := ⟨h.1, by rw [h.2]; exact Below.refl _ _⟩
theorem hasPrefix_c (s p : ByteArray) : ACall Tryd.prog 45 [is s, is p] (ib (Lib.hasPrefix s.data.toList p.data.toList)) :=
  acall2 ⟨_, Tryd.func45, rfl, rfl⟩ (fun _ _ => rfl) fun w _ => (Tryd.strings_HasPrefix s p w).mono fun _ _ h => same_below h
theorem contains_c (s p : ByteArray) (hs : s.size < 4294967281) : ACall Tryd.prog 50 [is s, is p] (ib (Lib.contains s.data.toList p.data.toList)) :=
  acall2 ⟨_, Tryd.func50, rfl, rfl⟩ (fun _ _ => rfl) fun w ⟨m, hm⟩ => (Tryd.strings_Contains s p m w hs hm).mono fun _ _ h => same_below h
theorem cut_c (s p : ByteArray) (hs : s.size < 4294967281) : ACall Tryd.prog 55 [is s, is p] (.tup [(false, [.lit (.string ⟨(Lib.cut s.data.toList p.data.toList).1.toArray⟩)]), (false, [.lit (.string ⟨(Lib.cut s.data.toList p.data.toList).2.1.toArray⟩)]), (false, [.lit (.bool (Lib.cut s.data.toList p.data.toList).2.2)])]) :=
  acall2 ⟨_, Tryd.func55, rfl, rfl⟩ (fun _ _ => ⟨_, rfl, _, _, rfl, ⟨_, _, rfl, rfl, rfl⟩, _, _, rfl, ⟨_, _, rfl, rfl, rfl⟩, _, _, rfl, ⟨_, _, rfl, rfl, rfl⟩, rfl⟩) fun w ⟨m, hm⟩ => (Tryd.strings_Cut s p m w hs hm).mono fun _ _ h => ⟨h.1, by obtain ⟨n, hn⟩ := h.2; rw [hn]; exact ⟨rfl, rfl, rfl, Nat.le_refl _, fun _ _ => rfl⟩⟩
theorem join_c (xs : List ByteArray) (sep : ByteArray) (hN : xs.length ≤ 140737488355328) (hlen : (Lib.join (xs.map (·.data.toList)) sep.data.toList).length ≤ 140737488355328) : ACall Tryd.prog 34 [.one (.sl .str xs), is sep] (is ⟨(Lib.join (xs.map (·.data.toList)) sep.data.toList).toArray⟩) := by
  refine ⟨⟨_, Tryd.func34, rfl, rfl⟩, fun ok w vs hg hvs => ?_⟩
  obtain ⟨v, t, rfl, ⟨a, cap, rfl, h1, h2, hc⟩, v2, t2, rfl, hv2, ht⟩ := hvs
  rw [show t2 = [] from ht, show v2 = .string sep from hv2]
  by_cases h0 : xs = []
  · subst h0
    refine (Tryd.strings_Join_none a cap sep w).mono ?_
    rintro e w' ⟨rfl, rfl⟩
    exact ⟨_, rfl, Below.refl _ _, rfl⟩
  · have hpos : 0 < xs.length := List.length_pos_iff.2 h0
    obtain ⟨b, off, _, rfl, _, hb, _⟩ := hc 0 hpos
    refine (Tryd.strings_Join b off cap xs sep w (fun j x hj => ?_) hb hN h1 hlen).mono ?_
    · obtain ⟨hjl, rfl⟩ := List.getElem?_eq_some_iff.1 hj
      obtain ⟨b', off', cs, e, _, _, hcell, hr⟩ := hc j hjl
      cases e
      have hr : cs = [.string xs[j]] := hr
      have := hcell.2 0 (by decide)
      rw [hr] at this
      simpa [Rd.n] using this
    · rintro e w' ⟨rfl, hb⟩
      exact ⟨_, rfl, hb, rfl⟩
end Ab
end Go.Proofs.YtehmiepjeffloaaDoor
namespace Go.Proofs.YtehmiepjeffloaaDoor
open Go.RowKit
namespace Ab
end Ab
end Go.Proofs.YtehmiepjeffloaaDoor
namespace Go.Proofs.YtehmiepjeffloaaDoor
open Go.RowKit
namespace Ab
set_option maxRecDepth 100000
abbrev Fld := ByteArray × ByteArray
abbrev rFld : Rd Fld := .st .str .str
theorem app_le {n b : Nat} (h : n ≤ 1000000000) (hb : b ≤ 1000) : n * b ≤ 140737488355328 := Nat.le_trans (Nat.mul_le_mul h hb) (by decide)
theorem drop_getD {α : Type} (l : List α) (d : α) (i : Nat) : (l.drop 1).getD i d = l.getD (i + 1) d := by
  cases l with
  | nil => simp
  | cons a b => rfl
namespace Q
def FldsOk (l : List Fld) : Prop := l.length ≤ 1000 ∧ ∀ f ∈ l, f.1.size ≤ 1000000 ∧ f.2.size ≤ 1000000
def sumF (l : List Fld) : Nat := (l.map fun f => min f.1.size 10000 + min f.2.size 10000).sum
def muchB (l : List Fld) : Bool := decide (61 < l.length) || decide (6000 < sumF l)
theorem drop_cons {l : List UInt8} {i : Nat} (h : i < l.length) : l.drop i = l.getD i 0 :: l.drop (i + 1) := by
  rw [List.drop_eq_getElem_cons h, List.getD_eq_getElem?_getD, List.getElem?_eq_getElem h]; rfl
theorem size_list (s : ByteArray) : s.size = s.data.toList.length := by cases s; rfl
theorem u8_eq {a b : UInt8} (h : (a.toNat : Int) = (b.toNat : Int)) : a = b := UInt8.toNat_inj.1 (by omega)
abbrev ls (s : ByteArray) : List UInt8 := s.data.toList
def bytes (l : List UInt8) : ByteArray := ⟨l.toArray⟩
theorem bytes_list (l : List UInt8) : (bytes l).data.toList = l := by simp [bytes]
theorem bytes_ls (s : ByteArray) : bytes (ls s) = s := by cases s; rfl
def Clean (sep p : List UInt8) : Prop := (∀ r j, j < p.length → Lib.occAt (p ++ sep ++ r) sep j = false) ∧ ∀ j, j ≤ p.length → Lib.occAt p sep j = false
theorem ints_app (l m : List UInt8) : intsOf (bytes l) ++ intsOf (bytes m) = intsOf (bytes (l ++ m)) := by
  unfold intsOf; rw [bytes_list, bytes_list, bytes_list, List.map_append]
theorem ints_len (l : List UInt8) : (intsOf (bytes l)).length = l.length := by unfold intsOf; rw [bytes_list, List.length_map]
theorem extract_one {s : ByteArray} {i : Nat} (h : i < s.data.toList.length) : s.extract i (i + 1) = bytes [s.data.toList.getD i 0] := by
  apply ByteArray.ext
  apply Array.ext'
  rw [bytes_list, Lib.extract_data, Nat.add_sub_cancel_left, drop_cons h]
  rfl
theorem bytes_app (l m : List UInt8) : bytes (l ++ m) = bytes l ++ bytes m := by
  apply ByteArray.ext; simp [bytes]
theorem ints_add (l m : List UInt8) (t : ByteArray) (h : t = bytes m) : intsOf (bytes l) ++ intsOf t = intsOf (bytes (l ++ m)) := by rw [h, ints_app]
theorem bytes_size (l : List UInt8) : (bytes l).size = l.length := by rw [size_list, bytes_list]
theorem extract_ls (s : ByteArray) (a b : Nat) : (s.extract a b).data.toList = (s.data.toList.drop a).take (b - a) := Lib.extract_data s a b
theorem map_take_succ {α β : Type} (g : α → β) (l : List α) (d : α) (i : Nat) (h : i < l.length) : (l.take (i + 1)).map g = (l.take i).map g ++ [g (l.getD i d)] := by
  rw [← take_snoc d h, List.map_append]; rfl
theorem ls_inj {s : ByteArray} {l : List UInt8} (h : ls s = l) : s = bytes l := by rw [← h, bytes_ls]
theorem occ_one (l : List UInt8) (c : UInt8) (i : Nat) : Lib.occAt l [c] i = true ↔ l[i]? = some c := by
  refine ⟨fun h => Lib.occAt_head rfl h, fun h => ?_⟩
  unfold Lib.occAt
  obtain ⟨hi, e⟩ := List.getElem?_eq_some_iff.1 h
  rw [List.drop_eq_getElem_cons hi, e]
  simp [List.isPrefixOf]
theorem contains_one (l : List UInt8) (c : UInt8) : Lib.contains l [c] = decide (c ∈ l) := by
  unfold Lib.contains
  refine decide_eq_decide.2 ⟨fun h => ?_, fun h => ?_⟩
  · rcases Lib.index_spec l [c] with ⟨e, _⟩ | ⟨i, _, _, h3, _⟩
    · omega
    · exact List.mem_of_getElem? ((occ_one l c i).1 h3)
  · obtain ⟨i, hi, e⟩ := List.getElem_of_mem h
    rcases Lib.index_spec l [c] with ⟨_, h2⟩ | ⟨i, h1, _⟩
    · have := h2 i (Nat.le_of_lt hi)
      rw [(occ_one l c i).2 (by rw [List.getElem?_eq_getElem hi, e])] at this
      cases this
    · omega
def blankC (c : UInt8) : Bool := decide (c = 32) || decide (c = 9)
def blankL (l : List UInt8) : Bool := decide (1 ≤ l.length) && blankC (l.getD 0 0)
def keyOk (l : List UInt8) : Bool := (((((decide (1 ≤ l.length) && decide (l.length ≤ 32)) && !blankC (l.getD 0 0)) && !decide (l.getD 0 0 = 35)) && !decide (58 ∈ l)) && !decide (10 ∈ l))
theorem emp {s : ByteArray} : s = ⟨#[]⟩ ↔ s.data.toList.length = 0 := by
  refine ⟨fun h => by rw [h]; rfl, fun h => ?_⟩
  have := List.eq_nil_of_length_eq_zero h
  rw [← bytes_ls s, show ls s = [] from this]; rfl
theorem hasPrefix_one (l : List UInt8) (c : UInt8) : Lib.hasPrefix l [c] = (decide (1 ≤ l.length) && decide (l.getD 0 0 = c)) := by
  unfold Lib.hasPrefix
  cases l with
  | nil => rfl
  | cons d l =>
    have : (c == d) = decide (d = c) := by rw [Bool.eq_iff_iff, beq_iff_eq, decide_eq_true_iff]; exact eq_comm
    simp [List.isPrefixOf, this]
theorem u8_iff (c d : UInt8) : ((c.toNat : Int) = d.toNat) ↔ c = d := ⟨u8_eq, fun h => by rw [h]⟩
theorem keyOk_prog (l : List UInt8) : keyOk l = (!(((decide (l.length = 0) || decide (32 < l.length)) || blankL l) || Lib.hasPrefix l [35]) && (!Lib.contains l [58] && !Lib.contains l [10])) := by
  rw [contains_one, contains_one, hasPrefix_one]
  unfold keyOk blankL
  by_cases h : 1 ≤ l.length
  · have h0 : ¬ l.length = 0 := by omega
    by_cases h2 : l.length ≤ 32
    · have h3 : ¬ 32 < l.length := by omega
      simp [h, h0, h2, h3, Bool.and_assoc]
    · have h3 : 32 < l.length := by omega
      simp [h2, h3]
  · have h0 : l.length = 0 := by omega
    simp [h0]
theorem blank_c (s : ByteArray) (hs : s.size ≤ 1000000000) : ACall Tryd.prog 49 [is s] (ib (blankL s.data.toList)) := by
  have hz := size_list s
  refine acall_of (rs := [2]) Tryd.func49 rfl rfl rfl teOk rfl ?_
  refine acode_seq ?_
  refine acode_region ?_
  refine acode_seq ?_
  refine acode_region ?_
  refine And.intro (fun h => trivial) ?_
  refine And.intro (fun h => ⟨⟨⟨h, trivial⟩, trivial⟩, by have h9 : ¬ s = ⟨#[]⟩ := (by simpa [gq] using h); rw [emp] at h9; omega⟩) ?_
  refine Or.inl ?_
  refine And.intro (rfl) ?_
  refine Exists.intro _ (And.intro (fun h => ⟨⟨⟨h, trivial⟩, trivial⟩, contains_c _ _ (by decide)⟩) ?_)
  refine And.intro (by exact fun h => h) ?_
  refine acode_ret ?_
  refine ib_eq ?_
  by_cases h : s.data.toList.length = 0
  ·rw [decide_eq_true (emp.2 h), Bool.not_true, Bool.false_and]; unfold blankL; rw [h]; rfl
  ·rw [decide_eq_false (fun e => h (emp.1 e)), show s.extract (Int.toNat 0) (Int.toNat 1) = bytes [s.data.toList.getD 0 0] from extract_one (by omega), bytes_list, contains_one]; unfold blankL blankC; rw [decide_eq_true (show 1 ≤ s.data.toList.length by omega)]; simp
theorem key_c (s : ByteArray) (hs : s.size ≤ 1000000000) : ACall Tryd.prog 39 [is s] (ib (keyOk s.data.toList)) := by
  have hz := size_list s
  refine acall_of (rs := [2]) Tryd.func39 rfl rfl rfl teOk rfl ?_
  refine acode_seq ?_
  refine acode_region ?_
  refine acode_seq ?_
  refine acode_seq ?_
  refine acode_region ?_
  refine And.intro (fun h => trivial) ?_
  refine And.intro (fun h => ⟨⟨h, trivial⟩, trivial⟩) ?_
  refine And.intro (fun h => ⟨⟨h, trivial⟩, trivial⟩) ?_
  refine And.intro (by first | (intro h; rw [h]; rfl) | (intro h; cases h)) ?_
  refine And.intro (fun h => trivial) ?_
  refine Or.inl ?_
  refine And.intro (rfl) ?_
  refine Exists.intro _ (And.intro (fun h => ⟨⟨⟨h, trivial⟩, trivial⟩, blank_c _ hs⟩) ?_)
  refine And.intro (by first | (intro h; rw [h]; rfl) | (intro h; cases h)) ?_
  refine And.intro (fun h => trivial) ?_
  refine Or.inl ?_
  refine And.intro (rfl) ?_
  refine Exists.intro _ (And.intro (fun h => ⟨⟨⟨h, trivial⟩, trivial⟩, hasPrefix_c _ _⟩) ?_)
  refine And.intro (by first | (intro h; rw [h]; rfl) | (intro h; cases h)) ?_
  refine acode_cond rfl (fun h17 => ?_) (fun h17 => ?_)
  ·try simp only [decide_eq_true_eq, Bool.or_eq_true] at h17
   try simp only [Int.toNat_natCast, dflt_sl, dflt_st, dflt_str, dflt_int, dflt_bool] at h17
   refine acode_seq ?_
   refine acode_region ?_
   refine acode_ret ?_
   refine ib_eq ?_
   rw [keyOk_prog]
   rw [emp] at h17
   rcases h17 with ((h | h) | h) | h
   ·simp [h]
   ·rw [decide_eq_true (show 32 < s.data.toList.length by omega)]; simp
   ·simp [h]
   ·simp [h]
  ·try simp only [decide_eq_false_iff_not, Bool.or_eq_false_iff, Int.not_lt] at h17
   try simp only [Int.toNat_natCast, dflt_sl, dflt_st, dflt_str, dflt_int, dflt_bool] at h17
   refine acode_skip ?_
   refine acode_seq ?_
   refine acode_region ?_
   refine Or.inl ?_
   refine And.intro (rfl) ?_
   refine Exists.intro _ (And.intro (contains_c _ _ (by omega)) ?_)
   refine And.intro (fun h => trivial) ?_
   refine Or.inl ?_
   refine And.intro (rfl) ?_
   refine Exists.intro _ (And.intro (fun h => ⟨⟨⟨h, trivial⟩, trivial⟩, contains_c _ _ (by omega)⟩) ?_)
   refine And.intro (fun h => ⟨⟨h, trivial⟩, trivial⟩) ?_
   refine And.intro (by exact fun h => h) ?_
   refine acode_ret ?_
   refine ib_eq ?_
   rw [keyOk_prog]
   rw [emp] at h17
   obtain ⟨⟨⟨h1, h2⟩, h3⟩, h4⟩ := h17
   simp only [h3, h4, decide_eq_false h1, decide_eq_false (show ¬ 32 < s.data.toList.length by omega)]
   rfl
theorem refBlank_c (c : UInt8) (n : Int) (hn : n = c.toNat) : ACall Tryd.prog 51 [ii .u8 n] (ib (blankC c)) := by
  subst hn
  refine acall_of (rs := [2]) Tryd.func51 rfl rfl rfl teOk rfl ?_
  refine acode_seq ?_
  refine acode_region ?_
  refine acode_seq ?_
  refine acode_region ?_
  refine And.intro (fun h => trivial) ?_
  refine And.intro (fun h => ⟨⟨h, trivial⟩, trivial⟩) ?_
  refine And.intro (by first | (intro h; rw [h]; rfl) | (intro h; cases h)) ?_
  refine acode_ret ?_
  refine ib_eq ?_
  unfold blankC
  rw [decide_eq_decide.2 (show (c.toNat : Int) = 32 ↔ c = 32 from u8_iff c 32), decide_eq_decide.2 (show (c.toNat : Int) = 9 ↔ c = 9 from u8_iff c 9)]
theorem notin_snoc {l : List UInt8} {c : UInt8} {i : Nat} (hi : i < l.length) (h : c ∉ l.take i) (hc : l.getD i 0 ≠ c) : c ∉ l.take (i + 1) := by
  rw [← take_snoc 0 hi, List.mem_append, List.mem_singleton]
  exact fun e => e.elim h fun e => hc e.symm
theorem refKey_c (s : ByteArray) (hs : s.size ≤ 1000000000) : ACall Tryd.prog 40 [is s] (ib (keyOk s.data.toList)) := by
  have hz := size_list s
  refine acall_of (rs := [2]) Tryd.func40 rfl rfl rfl teOk rfl ?_
  refine acode_seq ?_
  refine acode_region ?_
  refine acode_seq ?_
  refine acode_seq ?_
  refine acode_region ?_
  refine And.intro (fun h => trivial) ?_
  refine And.intro (fun h => ⟨⟨h, trivial⟩, trivial⟩) ?_
  refine And.intro (fun h => ⟨⟨h, trivial⟩, trivial⟩) ?_
  refine And.intro (by first | (intro h; rw [h]; rfl) | (intro h; cases h)) ?_
  refine And.intro (fun h => trivial) ?_
  refine And.intro (fun h => ⟨⟨⟨h, trivial⟩, trivial⟩, by first | omega | decide | (simp only [Int.toNat_natCast, dflt_sl, dflt_st, dflt_str, dflt_int, dflt_bool]; omega) | (have h9 := of_decide_eq_true h; omega) | (simp [gq] at h; omega)⟩) ?_
  refine Or.inl ?_
  refine And.intro (rfl) ?_
  refine Exists.intro _ (And.intro (fun h => ⟨⟨⟨h, trivial⟩, trivial⟩, refBlank_c (s.data.toList.getD 0 0) _ rfl⟩) ?_)
  refine And.intro (by first | (intro h; rw [h]; rfl) | (intro h; cases h)) ?_
  refine And.intro (fun h => trivial) ?_
  refine And.intro (fun h => ⟨⟨⟨h, trivial⟩, trivial⟩, by first | omega | decide | (simp only [Int.toNat_natCast, dflt_sl, dflt_st, dflt_str, dflt_int, dflt_bool]; omega) | (have h9 := of_decide_eq_true h; omega) | (simp [gq] at h; omega)⟩) ?_
  refine And.intro (fun h => ⟨⟨h, trivial⟩, trivial⟩) ?_
  refine And.intro (by first | (intro h; rw [h]; rfl) | (intro h; cases h)) ?_
  refine acode_cond rfl (fun h21 => ?_) (fun h21 => ?_)
  ·try simp only [decide_eq_true_eq, Bool.or_eq_true] at h21
   try simp only [Int.toNat_natCast, dflt_sl, dflt_st, dflt_str, dflt_int, dflt_bool] at h21
   refine acode_seq ?_
   refine acode_region ?_
   refine acode_ret ?_
   refine ib_eq ?_
   unfold keyOk
   rcases h21 with ((h | h) | h) | h
   ·rw [decide_eq_false (show ¬ 1 ≤ s.data.toList.length by omega)]; simp
   ·rw [decide_eq_false (show ¬ s.data.toList.length ≤ 32 by omega)]; simp
   ·rw [h]; simp
   ·rw [show s.data.toList.getD 0 0 = 35 from u8_eq h]; simp
  ·try simp only [decide_eq_false_iff_not, Bool.or_eq_false_iff, Int.not_lt] at h21
   try simp only [Int.toNat_natCast, dflt_sl, dflt_st, dflt_str, dflt_int, dflt_bool] at h21
   refine acode_skip ?_
   refine acode_seq ?_
   refine acode_seq ?_
   refine acode_region ?_
   refine acode_block ?_
   refine acode_loopP (fun (i : Nat) => i ≤ s.size ∧ 58 ∉ s.data.toList.take i ∧ 10 ∉ s.data.toList.take i) (fun (i : Nat) => [(0, is s), (3, ii .i64 i)]) (fun (i : Nat) => []) 0 (fun (i : Nat) => s.size - i) 0 (⟨Nat.zero_le _, by simp, by simp⟩) (le_of ⟨rfl, rfl⟩ trivial rfl) ?_
   intro i hI0
   obtain ⟨hi, h1, h2⟩ := hI0
   refine acode_seq ?_
   refine acode_seq ?_
   refine acode_region ?_
   refine acode_cond rfl (fun h25 => ?_) (fun h25 => ?_)
   ·try simp only [decide_eq_true_eq] at h25
    try simp only [Int.toNat_natCast, dflt_sl, dflt_st, dflt_str, dflt_int, dflt_bool] at h25
    have hlt : i < s.data.toList.length := by omega
    refine acode_skip ?_
    refine acode_seq ?_
    refine acode_block ?_
    refine acode_seq ?_
    refine acode_region ?_
    refine And.intro (by first | omega | assumption | decide | (simp only [Int.toNat_natCast, dflt_sl, dflt_st, dflt_str, dflt_int, dflt_bool]; omega) | (simp <;> omega)) ?_
    refine And.intro (fun h => trivial) ?_
    refine And.intro (fun h => trivial) ?_
    refine And.intro (fun h => ⟨⟨⟨h, trivial⟩, ⟨h, trivial⟩, trivial⟩, by first | omega | decide | (simp only [Int.toNat_natCast, dflt_sl, dflt_st, dflt_str, dflt_int, dflt_bool]; omega) | (have h9 := of_decide_eq_true h; omega) | (simp [gq] at h; omega)⟩) ?_
    refine And.intro (fun h => ⟨⟨h, trivial⟩, trivial⟩) ?_
    refine And.intro (by first | (intro h; rw [h]; rfl) | (intro h; cases h)) ?_
    refine acode_cond rfl (fun h37 => ?_) (fun h37 => ?_)
    ·try simp only [decide_eq_true_eq, Bool.or_eq_true] at h37
     try simp only [Int.toNat_natCast] at h37
     refine acode_seq ?_
     refine acode_region ?_
     refine acode_ret ?_
     refine ib_eq ?_
     unfold keyOk
     rcases h37 with h | h
     ·rw [decide_eq_true (show 58 ∈ s.data.toList from (show s.data.toList.getD i 0 = 58 from u8_eq h) ▸ getD_mem hlt 0)]; simp
     ·rw [decide_eq_true (show 10 ∈ s.data.toList from (show s.data.toList.getD i 0 = 10 from u8_eq h) ▸ getD_mem hlt 0)]; simp
    ·try simp only [decide_eq_false_iff_not, Bool.or_eq_false_iff] at h37
     try simp only [Int.toNat_natCast] at h37
     have hc1 : s.data.toList.getD i 0 ≠ 58 := fun e => h37.1 (by rw [e]; rfl)
     have hc2 : s.data.toList.getD i 0 ≠ 10 := fun e => h37.2 (by rw [e]; rfl)
     refine acode_skip ?_
     refine acode_region ?_
     refine And.intro (by first | omega | assumption | decide | (simp only [Int.toNat_natCast, dflt_sl, dflt_st, dflt_str, dflt_int, dflt_bool]; omega) | (simp <;> omega)) ?_
     exact ⟨i + 1, ⟨by omega, notin_snoc hlt h1 hc1, notin_snoc hlt h2 hc2⟩, by first | omega | (simp <;> omega), le_of ⟨rfl, rfl⟩ trivial rfl⟩
   ·try simp only [decide_eq_false_iff_not, Int.not_lt] at h25
    try simp only [Int.toNat_natCast, dflt_sl, dflt_st, dflt_str, dflt_int, dflt_bool] at h25
    refine acode_exit ?_
    refine acode_seq ?_
    refine acode_region ?_
    refine acode_ret ?_
    refine ib_eq ?_
    rw [List.take_of_length_le (by omega)] at h1 h2
    unfold keyOk
    obtain ⟨⟨⟨a1, a2⟩, a3⟩, a4⟩ := h21
    rw [a3, decide_eq_false h1, decide_eq_false h2, decide_eq_true (show 1 ≤ s.data.toList.length by omega), decide_eq_true (show s.data.toList.length ≤ 32 by omega), decide_eq_false (fun e : s.data.toList.getD 0 0 = 35 => a4 (by rw [show Int.toNat 0 = 0 from rfl, e]; rfl))]
    rfl
end Q
end Ab
end Go.Proofs.YtehmiepjeffloaaDoor
namespace Go.Proofs.YtehmiepjeffloaaDoor
open Go.RowKit
namespace Ab
namespace Q
def stuffL (s : List UInt8) : List UInt8 := if s.all blankC || Lib.hasPrefix s [46] then 46 :: s else s
def partsL (v : List UInt8) : List (List UInt8) := Lib.split v [10]
def firstL (key : List UInt8) (p : List UInt8) : List UInt8 := key ++ [58] ++ (if p = [] then [] else 32 :: p)
def linesL (key v : List UInt8) : List (List UInt8) := firstL key ((partsL v).headD []) :: ((partsL v).drop 1).map fun s => 32 :: stuffL s
def kindL (l : List UInt8) : Int := if 10 ∈ l then 5 else if l.all blankC = true then 1 else if Lib.hasPrefix l [35] = true then 2 else if blankL l = true then 3
  else if ((Lib.cut l [58]).2.2 && keyOk (Lib.cut l [58]).1) = true then 4 else 5
theorem cut_at {key r : List UInt8} {c : UInt8} (h : c ∉ key) : Lib.cut (key ++ c :: r) [c] = (key, r, true) := by
  have hi : Lib.index (key ++ c :: r) [c] = key.length := by
    refine Lib.index_first (by simp) ((occ_one _ _ _).2 (by simp)) fun j hj => Bool.eq_false_iff.2 fun e => ?_
    have := (occ_one _ _ _).1 e
    rw [List.getElem?_append_left hj] at this
    exact h (List.mem_of_getElem? this)
  unfold Lib.cut
  rw [hi, if_pos (by omega), Int.toNat_natCast, List.take_left]
  show (key, List.drop (key.length + 1) (key ++ c :: r), true) = _
  rw [← List.drop_drop, List.drop_left]; rfl
def valueL (l0 : List UInt8) (rest : List (List UInt8)) : List UInt8 := Lib.join (Lib.trimPrefix (Lib.cut l0 [58]).2.1 [32] :: rest.map fun s => Lib.trimPrefix (s.drop 1) [46]) [10]
def unfoldL : List (List UInt8) → (List UInt8 × List UInt8) × Int
  | [] => (([], []), 2)
  | l0 :: rest => if kindL l0 ≠ 4 ∨ (rest.any fun s => !decide (kindL s = 3)) = true then (([], []), 2) else if 1000 < (valueL l0 rest).length then (([], []), 6) else (((Lib.cut l0 [58]).1, valueL l0 rest), 0)
end Q
end Ab
end Go.Proofs.YtehmiepjeffloaaDoor
namespace Go.Proofs.YtehmiepjeffloaaDoor
open Go.Shelf Go.RowKit Go.Lib Go.Proofs
variable {P : Program} {ρ : Ren}
theorem slice_from {t : TypeId} {w : World} (h : P.underlying t = some .string) (s : ByteArray) (k : IntKind) (i : Int) (hi : 0 ≤ i ∧ i ≤ (s.size : Int)) :
    (Instr.slice t (.string s) (some (.int k i)) none none).run P w = .ok (.string (s.extract i.toNat s.size)) w := by
  simp [Instr.slice, Instr.sliceBounds, Instr.sliceBound, asIntOf, run_underlying h, hi]
set_option maxHeartbeats 4000000 in
set_option maxRecDepth 1000000 in
theorem idxRune_err (L : Lays.n152 P ρ) (s : ByteArray) (w : World) (hascii : ∀ (j : Nat) b, s.data.toList[j]? = some b → b.toNat < 128) :
    Calls P (ρ.f 152) #[.string s, .int .i32 65533] w fun e w' => e = .returned (.int .i64 (-1)) ∧ Below w.heap.size w w' := by
  have HA : Aside (∀ (j : Nat) b, s.data.toList[j]? = some b → b.toNat < 128) := hascii
  clear hascii
  have t0 := L.t0; have a0 := L.a0; have z0 := L.z0; have v0 := L.v0
  have t3 := L.t3; have a3 := L.a3; have z3 := L.z3; have v3 := L.v3
  have t4 := L.t4; have a4 := L.a4; have z4 := L.z4; have v4 := L.v4
  have t5 := L.t5; have a5 := L.a5; have z5 := L.z5; have v5 := L.v5
  have t9 := L.t9; have a9 := L.a9; have z9 := L.z9; have v9 := L.v9
  have t21 := L.t21; have a21 := L.a21; have z21 := L.z21; have v21 := L.v21
  go_enter L.f152, Body.n152_ntmps ρ
  go_wp2
  go_loopg [5, 6] s.size (fun g _ _ wx => ∃ i : Nat, i + g = s.size ∧ wx = w.iter s i)
  case atStart => exact ⟨0, by omega, rfl⟩
  case round =>
    obtain ⟨i, hig, rfl⟩ := hrel
    cases gk with
    | zero =>
      obtain rfl : i = s.size := by omega
      have hnx := run_next_end (P := P) w s s.size
      go_wp2
      go_ret
      exact ⟨rfl, (Below.refl _ _).alloc (Nat.le_refl _) _⟩
    | succ g =>
      have hi : i < s.size := by omega
      obtain ⟨x, hx⟩ : ∃ x : UInt8, s[i]'hi = x := ⟨_, rfl⟩
      have hxl : s.data.toList[i]? = some x := by rw [← hx]; exact Lib.data_getElem? s i hi
      have hx128 : x.toNat < 128 := HA.out i x hxl
      have hnx := fun ty => run_next_ascii (P := P) w s i ty hi (by rw [hx]; exact hx128)
      rw [hx] at hnx
      have hne : ((x.toNat : Int) == 65533) = false := beq_eq_false_iff_ne.2 (by omega)
      clear hxl hx
      go_wp2
      go_roundg g
      case measure => omega
      case rel => exact ⟨i + 1, by omega, rfl⟩
set_option maxHeartbeats 4000000 in
set_option maxRecDepth 1000000 in
theorem idxRune_hi (L : Lays.n152 P ρ) (s : ByteArray) (r : Int) (w : World) (h0 : 128 ≤ r) (h1 : r ≠ 65533) (_hs : s.size < 4294967281) (hascii : ∀ (j : Nat) b, s.data.toList[j]? = some b → b.toNat < 128) :
    Calls P (ρ.f 152) #[.string s, .int .i32 r] w fun e w' => e = .returned (.int .i64 (-1)) ∧ Below w.heap.size w w' := by
  have HA : Aside (∀ (j : Nat) b, s.data.toList[j]? = some b → b.toNat < 128) := hascii
  clear hascii
  have mixed := L.mixed
  have t0 := L.t0; have a0 := L.a0; have z0 := L.z0; have v0 := L.v0
  have t3 := L.t3; have a3 := L.a3; have z3 := L.z3; have v3 := L.v3; have u3 := run_underlying L.t3
  have t4 := L.t4; have a4 := L.a4; have z4 := L.z4; have v4 := L.v4
  have t5 := L.t5; have a5 := L.a5; have z5 := L.z5; have v5 := L.v5
  have t9 := L.t9; have a9 := L.a9; have z9 := L.z9; have v9 := L.v9; have u9 := run_underlying L.t9
  have t21 := L.t21; have a21 := L.a21; have z21 := L.z21; have v21 := L.v21; have u21 := run_underlying L.t21
  have e119 : ∀ args w, (callFunc (ρ.f 119) args).run P w = .ok (.enter (ρ.f 119) args) w := enters_of L.f119 (by kernel_rfl) rfl
  have e137 : ∀ args w, (callFunc (ρ.f 137) args).run P w = .ok (.enter (ρ.f 137) args) w := enters_of L.f137 (by kernel_rfl) rfl
  have hne : (r == 65533) = false := beq_eq_false_iff_ne.2 h1
  have hlt : ¬ r < 128 := by omega
  cases hv : Lib.validRune r
  · go_enter L.f152, Body.n152_ntmps ρ
    go_wp2_with (go_at_fn (ρ.f 119); refine (Any.utf8_ValidRune { L with } _ _).mono ?_; rintro e w' ⟨rfl, hw⟩; rw [hw, hv])
    go_ret
    exact ⟨rfl, Below.refl _ _⟩
  · have hv' : Utf8.valid r = true := (validRune_eq r).trans (by simpa only [Go.validRune, Lib.validRune] using hv)
    obtain ⟨e2, e4, eb⟩ := encode_facts r hv' h0
    generalize hrs : Utf8.encode r = rs at e2 e4 eb
    have hcv : ∀ w, (convert (ρ.t 21) (ρ.t 9) (.int .i32 r)).run P w = .ok (.string rs) w := fun w => by rw [run_convert_int_string w _ _ _ _ (by rw [t21]; rfl) t9, hrs]
    go_enter L.f152, Body.n152_ntmps ρ
    go_wp2_with (go_at_fn (ρ.f 119); refine (Any.utf8_ValidRune { L with } _ _).mono ?_; rintro e w' ⟨rfl, hw⟩; rw [hw, hv])
    go_wp2
    go_step3
    go_wp2
    go_loopg [9] 1 (fun g p wx => p = .int .i64 ((rs.size : Int) - 1) ∧ wx = w)
    case atStart => exact ⟨rfl, rfl⟩
    case round =>
      obtain ⟨rfl, rfl⟩ := hrel
      by_cases hb : (rs.size : Int) - 1 < (s.size : Int)
      · have hlast : ((rs.size : Int) - 1).toNat = rs.size - 1 := by omega
        obtain ⟨x, hx⟩ : ∃ x : UInt8, s[rs.size - 1]'(by omega) = x := ⟨_, rfl⟩
        obtain ⟨y, hy⟩ : ∃ y : UInt8, rs[rs.size - 1]'(by omega) = y := ⟨_, rfl⟩
        have hxl : s.data.toList[rs.size - 1]? = some x := by rw [← hx]; exact Lib.data_getElem? s _ (by omega)
        have hx128 : x.toNat < 128 := HA.out _ x hxl
        have hy128 : 128 ≤ y.toNat := by rw [← hy]; exact eb (by omega)
        have hi1 : ∀ w, (Instr.index (ρ.t 9) (.string s) (.int .i64 ((rs.size : Int) - 1))).run P w = .ok (.int .u8 x.toNat) w := fun w => by
          rw [run_index_string w _ s _ _ t9, dif_pos ⟨by omega, by omega⟩]; simp only [hlast, hx]
        have hi2 : ∀ w, (Instr.index (ρ.t 9) (.string rs) (.int .i64 ((rs.size : Int) - 1))).run P w = .ok (.int .u8 y.toNat) w := fun w => by
          rw [run_index_string w _ rs _ _ t9, dif_pos ⟨by omega, by omega⟩]; simp only [hlast, hy]
        have hs1 : ∀ w, (Instr.slice (ρ.t 9) (.string s) (some (.int .i64 (rs.size : Int))) none none).run P w = .ok (.string (s.extract rs.size s.size)) w := fun w => by
          rw [slice_from t9 s _ _ ⟨by omega, by omega⟩]; rfl
        have hs2 : ∀ w, (Instr.slice (ρ.t 9) (.string s) (some (.int .i64 ((rs.size : Int) - 1 + 1))) none none).run P w = .ok (.string (s.extract rs.size s.size)) w := fun w => by
          rw [show (rs.size : Int) - 1 + 1 = rs.size by omega]; exact hs1 w
        have hwr : IntKind.i64.wrap (rs.size : Int) = (rs.size : Int) := wrap_small _ (by omega) (by omega)
        have hle : (rs.size : Int) ≤ (s.size : Int) := by omega
        have hxy : ((x.toNat : Int) == (y.toNat : Int)) = false := beq_eq_false_iff_ne.2 (by omega)
        clear hx hy hxl
        go_wp2
        go_step3
        go_wp2
        go_region_o
        go_wp2
        go_region_with_o (go_at_fn (ρ.f 137); refine (Any.strings_IndexByte { L with } _ _ _).mono ?_; rintro e w' ⟨rfl, hw⟩; rw [hw])
        have hio : indexByte (List.take (s.size - rs.size) (List.drop rs.size s.data.toList)) y = -1 := by
          have hge := Lib.indexByte_ge (List.take (s.size - rs.size) (List.drop rs.size s.data.toList)) y
          by_cases hm : indexByte (List.take (s.size - rs.size) (List.drop rs.size s.data.toList)) y = -1
          · exact hm
          · exfalso
            obtain ⟨o, ho⟩ := Int.eq_ofNat_of_zero_le (show (0 : Int) ≤ indexByte (List.take (s.size - rs.size) (List.drop rs.size s.data.toList)) y by omega)
            have h1 := (Lib.indexByte_some ho).1
            rw [List.getElem?_take] at h1
            split at h1
            · rw [List.getElem?_drop] at h1
              have := HA.out _ _ h1
              omega
            · cases h1
        rw [hio]
        go_wp2
        simp only [Exit.noGoto, Exit.inBlock, Exit.then]
        go_ret
        exact ⟨rfl, (Below.refl _ _).drew.drew⟩
      · go_wp2
        go_ret
        exact ⟨rfl, Below.refl _ _⟩
theorem idxRune_no (L : Lays.n152 P ρ) (s : ByteArray) (r : Int) (w : World) (h0 : 128 ≤ r) (hs : s.size < 4294967281) (hascii : ∀ (j : Nat) b, s.data.toList[j]? = some b → b.toNat < 128) :
    Calls P (ρ.f 152) #[.string s, .int .i32 r] w fun e w' => e = .returned (.int .i64 (-1)) ∧ Below w.heap.size w w' := by
  by_cases h : r = 65533
  · subst h; exact idxRune_err L s w hascii
  · exact idxRune_hi L s r w h0 h hs hascii
theorem decode_wide (s : ByteArray) (i : Nat) (h : i < s.size) (ha : 128 ≤ (s[i]'h).toNat) : ∀ j, j < (Utf8.decode s i).2 → ∃ b, s.data.toList[i + j]? = some b ∧ 128 ≤ b.toNat := by
  intro j hj
  have key : ∀ j, i + j < s.size → 128 ≤ (s.get! (i + j)).toNat → ∃ b, s.data.toList[i + j]? = some b ∧ 128 ≤ b.toNat := by
    intro j hl hb
    refine ⟨s[i + j]'hl, Lib.data_getElem? s _ hl, ?_⟩
    have := get_at s (i + j) hl
    rw [Nat.add_zero] at this
    rwa [← this]
  have h0 : 128 ≤ (s.get! i).toNat := by
    have := get_at s i h
    rw [Nat.add_zero] at this
    rwa [this]
  rw [Lib.decode_at] at hj
  unfold Lib.decodeN at hj
  have k0 := key 0 (by omega) (by simpa using h0)
  have k1 := key 1
  have k2 := key 2
  have k3 := key 3
  clear key
  split at hj
  · omega
  · split at hj
    · rename_i hc
      split at hj
      · have : j = 0 ∨ j = 1 := by simp only at hj; omega
        rcases this with rfl | rfl
        · exact k0
        · exact k1 (by omega) (by omega)
      · obtain rfl : j = 0 := by simp only at hj; omega
        exact k0
    · split at hj
      · rename_i hc
        split at hj
        · have : j = 0 ∨ j = 1 ∨ j = 2 := by simp only at hj; omega
          rcases this with rfl | rfl | rfl
          · exact k0
          · exact k1 (by omega) (by omega)
          · exact k2 (by omega) (by omega)
        · obtain rfl : j = 0 := by simp only at hj; omega
          exact k0
      · split at hj
        · rename_i hc
          split at hj
          · have : j = 0 ∨ j = 1 ∨ j = 2 ∨ j = 3 := by simp only at hj; omega
            rcases this with rfl | rfl | rfl | rfl
            · exact k0
            · exact k1 (by omega) (by omega)
            · exact k2 (by omega) (by omega)
            · exact k3 (by omega) (by omega)
          · obtain rfl : j = 0 := by simp only at hj; omega
            exact k0
        · obtain rfl : j = 0 := by simp only at hj; omega
          exact k0
theorem noAny_add {s chars : List UInt8} {i n : Nat} (h : NoAny s chars i) (hn : ∀ j, j < n → ∃ b, s[i + j]? = some b ∧ 128 ≤ b.toNat) (hc : ∀ (j : Nat) b, chars[j]? = some b → b.toNat < 128) : NoAny s chars (i + n) := by
  intro j b hj hb
  by_cases hji : j < i
  · exact h j b hji hb
  · obtain ⟨b', h1, h2⟩ := hn (j - i) (by omega)
    rw [show i + (j - i) = j by omega, hb] at h1
    cases h1
    cases hcc : chars.contains b
    · rfl
    · exfalso
      have hm := List.contains_iff_mem.1 hcc
      obtain ⟨q, hq⟩ := List.getElem?_of_mem hm
      have := hc q b hq
      omega
set_option maxHeartbeats 8000000 in
set_option maxRecDepth 1000000 in
theorem idxAny_short (L : Lays.n153 P ρ) (s chars : ByteArray) (w : World) (h2 : 2 ≤ chars.size) (h8 : s.size ≤ 8) (hcs : chars.size < 4294967281) (hascii : ∀ (j : Nat) b, chars.data.toList[j]? = some b → b.toNat < 128) :
    Calls P (ρ.f 153) #[.string s, .string chars] w fun e w' => e = .returned (.int .i64 (Lib.indexAny s.data.toList chars.data.toList)) ∧ Below w.heap.size w w' := by
  have HA : Aside (∀ (j : Nat) b, chars.data.toList[j]? = some b → b.toNat < 128) := hascii
  clear hascii
  have hemp : chars.toList.isEmpty = false := by
    rw [Lib.toList_data]
    cases h : chars.data.toList with
    | nil => have := Lib.size_eq chars; rw [h, List.length_nil] at this; omega
    | cons _ _ => rfl
  have hn1 : ((chars.size : Int) == 1) = false := beq_eq_false_iff_ne.2 (by omega)
  have h8z : decide ((8 : Int) < (s.size : Int)) = false := decide_eq_false (by omega)
  have t3 := L.t3; have a3 := L.a3; have z3 := L.z3; have v3 := L.v3
  have t4 := L.t4; have a4 := L.a4; have z4 := L.z4; have v4 := L.v4
  have t5 := L.t5; have a5 := L.a5; have z5 := L.z5; have v5 := L.v5
  have t9 := L.t9; have a9 := L.a9; have z9 := L.z9; have v9 := L.v9
  have t21 := L.t21; have a21 := L.a21; have z21 := L.z21; have v21 := L.v21
  have e152 : ∀ args w, (callFunc (ρ.f 152) args).run P w = .ok (.enter (ρ.f 152) args) w := enters_of L.f152 (by kernel_rfl) rfl
  have e226 : ∀ args w, (callFunc (ρ.f 226) args).run P w = .ok (.enter (ρ.f 226) args) w := enters_of L.f226 (by kernel_rfl) rfl
  go_enter L.f153, Body.n153_ntmps ρ
  go_wp2_with (go_at_fn (ρ.f 226); refine (Any.strings_shouldUseASCIISet { L with } _ _).mono ?_; rintro e w' ⟨rfl, hw⟩; rw [hw, h8z])
  go_loopg [9, 10] s.size (fun g _ _ wx => ∃ i : Nat, i + g = s.size ∧ Aside (wx.heap[w.heap.size]? = some (.stringIter s i)) ∧ Aside (Below w.heap.size w wx) ∧ Aside (Lib.NoAny s.data.toList chars.data.toList i))
  case atStart => exact ⟨0, by omega, World.iter_heap w s 0, (Below.refl _ _).alloc (Nat.le_refl _) _, Lib.NoAny.zero _ _⟩
  case round =>
    obtain ⟨i, hig, HI, HB, HN⟩ := hrel
    cases gk with
    | zero =>
      obtain rfl : i = s.size := by omega
      have hnx := fun ty => run_next_end_at (P := P) wr w.heap.size s s.size ty HI.out (by omega)
      go_wp2
      go_ret
      exact ⟨by rw [Lib.indexAny_none (by rw [← Lib.size_eq]; exact HN.out)]; rfl, HB.out⟩
    | succ g =>
      have hi : i < s.size := by omega
      obtain ⟨x, hx⟩ : ∃ x : UInt8, s[i]'hi = x := ⟨_, rfl⟩
      by_cases hx128 : x.toNat < 128
      · have hnx := fun ty => run_next_ascii_at (P := P) wr w.heap.size s i ty HI.out hi (by rw [hx]; exact hx128)
        rw [hx] at hnx
        have Hx : Aside (s.data.toList[i]? = some x) := by rw [← hx]; exact Lib.data_getElem? s i hi
        have HW : Aside (Below w.heap.size w (wr.iterAt w.heap.size s (i + 1)) ∧ (wr.iterAt w.heap.size s (i + 1)).heap[w.heap.size]? = some (.stringIter s (i + 1))) := ⟨below_iterAt HB.out (Nat.le_refl _) s _, iterAt_heap _ _ _ _ _ HI.out⟩
        clear hx
        generalize wr.iterAt w.heap.size s (i + 1) = wz at hnx HW
        have hcon := Lib.contains_iff_indexByte chars.data.toList x
        have hback : ((x.toNat : Int)).toNat.toUInt8 = x := by simp
        cases hin : chars.data.toList.contains x
        · rw [hin] at hcon
          have hlt : ¬ ((0 : Int) ≤ Lib.indexByte chars.data.toList x) := of_decide_eq_false hcon.symm
          clear hcon
          go_wp2_with (go_at_fn (ρ.f 152); refine (Any.strings_IndexRune_ascii { L with } _ _ _ (by omega) (by omega)).mono ?_; rintro e w' ⟨rfl, hw⟩; rw [hw, hback])
          go_roundg g
          case measure => omega
          case rel => exact ⟨i + 1, by omega, HW.out.2, HW.out.1, HN.out.succ Hx.out hin⟩
        · rw [hin] at hcon
          have hge : (0 : Int) ≤ Lib.indexByte chars.data.toList x := of_decide_eq_true hcon.symm
          clear hcon
          go_wp2_with (go_at_fn (ρ.f 152); refine (Any.strings_IndexRune_ascii { L with } _ _ _ (by omega) (by omega)).mono ?_; rintro e w' ⟨rfl, hw⟩; rw [hw, hback])
          go_ret
          exact ⟨by rw [Lib.indexAny_hit HN.out Hx.out hin]; rfl, HW.out.1⟩
      · have hnx := fun ty => run_next_any_at (P := P) wr w.heap.size s i ty HI.out hi
        have hwide := decode_wide s i hi (by rw [hx]; omega)
        obtain ⟨hr0, hr1⟩ := decode_high s i hi (by rw [hx]; omega)
        have hrm := decode_le s i
        generalize Utf8.decode s i = rn at hnx hwide hr0 hr1 hrm
        obtain ⟨r, n⟩ := rn
        simp only at hnx hwide hr0 hr1 hrm
        have hin : i + n ≤ s.size := by
          obtain ⟨b, hb, _⟩ := hwide (n - 1) (by omega)
          have := (List.getElem?_eq_some_iff.1 hb).1
          rw [← Lib.size_eq] at this
          omega
        have HN' : Aside (Lib.NoAny s.data.toList chars.data.toList (i + n)) := noAny_add HN.out hwide HA.out
        have HW : Aside (Below w.heap.size w (wr.iterAt w.heap.size s (i + n)) ∧ (wr.iterAt w.heap.size s (i + n)).heap[w.heap.size]? = some (.stringIter s (i + n)) ∧ w.heap.size < (wr.iterAt w.heap.size s (i + n)).heap.size) :=
          ⟨below_iterAt HB.out (Nat.le_refl _) s _, iterAt_heap _ _ _ _ _ HI.out, (Array.getElem?_eq_some_iff.1 (iterAt_heap _ _ _ _ (i + n) HI.out)).1⟩
        clear hx hwide
        generalize wr.iterAt w.heap.size s (i + n) = wz at hnx HW
        go_wp2_with (go_at_fn (ρ.f 152); refine (idxRune_no { L with } chars _ _ (by omega) hcs HA.out).mono ?_; rintro e w' ⟨rfl, hw⟩)
        go_roundg (s.size - (i + n))
        case measure => omega
        case rel => exact ⟨i + n, by omega, (hw.block _ HW.out.2.2).trans HW.out.2.1, HW.out.1.trans (hw.mono (Nat.le_of_lt HW.out.2.2)), HN'.out⟩
theorem idxAny (L : Lays.n153 P ρ) (h116 : (P.info? (ρ.t 116)).map (fun i => (i.zero, i.size)) = some (some (.agg (Array.replicate 256 (.bool false))), 256)) (s chars : ByteArray) (w : World) (hs : s.size < 4294967281) (hcs : chars.size < 4294967281) (h2 : 2 ≤ chars.size)
    (hac : ∀ (j : Nat) b, chars.data.toList[j]? = some b → b.toNat < 128) :
    Calls P (ρ.f 153) #[.string s, .string chars] w fun e w' => e = .returned (.int .i64 (Lib.indexAny s.data.toList chars.data.toList)) ∧ Below w.heap.size w w' := by
  by_cases h8 : s.size ≤ 8
  · exact idxAny_short L s chars w h2 h8 hcs hac
  · refine (Any.strings_IndexAny_long L (zero_of_info h116).1 (zero_of_info h116).2 s chars w h2 (by omega) hs hcs hac).mono fun e w' ⟨h1, h2⟩ => ⟨h1, ?_⟩
    rw [h2]
    exact ((Below.refl _ _).alloc (Nat.le_refl _) _).alloc (by simp) _
set_option maxHeartbeats 1000000 in
theorem conAny (L : Lays.n150 P ρ) (h116 : (P.info? (ρ.t 116)).map (fun i => (i.zero, i.size)) = some (some (.agg (Array.replicate 256 (.bool false))), 256)) (s chars : ByteArray) (w : World) (hs : s.size < 4294967281) (hcs : chars.size < 4294967281) (h2 : 2 ≤ chars.size)
    (hac : ∀ (j : Nat) b, chars.data.toList[j]? = some b → b.toNat < 128) :
    Calls P (ρ.f 150) #[.string s, .string chars] w fun e w' => e = .returned (.bool (Lib.containsAny s.data.toList chars.data.toList)) ∧ Below w.heap.size w w' := by
  have c := idxAny { L with } h116 s chars w hs hcs h2 hac
  have t3 := L.t3; have a3 := L.a3; have z3 := L.z3; have v3 := L.v3
  have t4 := L.t4; have a4 := L.a4; have z4 := L.z4; have v4 := L.v4
  have t9 := L.t9; have a9 := L.a9; have z9 := L.z9; have v9 := L.v9
  have e153 : ∀ args w, (callFunc (ρ.f 153) args).run P w = .ok (.enter (ρ.f 153) args) w := enters_of L.f153 (by kernel_rfl) rfl
  go_enter L.f150, Body.n150_ntmps ρ
  go_wp2_with (go_at_fn (ρ.f 153); refine c.mono ?_; rintro e w' ⟨rfl, hw⟩)
  go_ret
  exact ⟨rfl, hw⟩
end Go.Proofs.YtehmiepjeffloaaDoor
namespace Go.Proofs.YtehmiepjeffloaaDoor
open Go.RowKit
namespace Ab
namespace Q
def dblL : List UInt8 → List UInt8
  | [] => []
  | c :: r => if c = 34 then 34 :: 34 :: dblL r else c :: dblL r
def quoL (s : List UInt8) : List UInt8 := 34 :: (dblL s ++ [34])
def oddC (c : UInt8) : Bool := c == 44 || c == 34 || c == 10 || c == 13
def shCell (s : List UInt8) (alone : Bool) : List UInt8 := if ((s.isEmpty && alone) || s.any oddC) = true then quoL s else s
def shLine (row : List (List UInt8)) : List UInt8 := Lib.join (row.map fun s => shCell s (decide (row.length = 1))) [44] ++ [10]
def shWrite (rows : List (List (List UInt8))) : List UInt8 := (rows.map shLine).flatten
def shGood {α : Type} (rows : List (List α)) : Bool := rows.all fun r => !r.isEmpty
def inQ : List UInt8 → Option (List UInt8 × List UInt8)
  | [] => none
  | [c] => if c = 34 then some ([], []) else none
  | c :: d :: r => if c = 34 then (if d = 34 then (inQ r).map fun p => (34 :: p.1, p.2) else some ([], d :: r)) else (inQ (d :: r)).map fun p => (c :: p.1, p.2)
def spanS : List UInt8 → Option (List UInt8 × List UInt8)
  | [] => none
  | c :: r => if c = 44 ∨ c = 10 then some ([], c :: r) else (spanS r).map fun p => (c :: p.1, p.2)
def shNext : List UInt8 → Option (List UInt8 × List UInt8)
  | [] => none
  | c :: r => if c = 34 then inQ r else spanS (c :: r)
def shRow (t : List UInt8) : Option (List (List UInt8) × List UInt8) :=
  match shNext t with
  | none => none
  | some (_, []) => none
  | some (s, c :: r) =>
    if _h : r.length < t.length then
      if c = 10 then some ([s], r) else if c = 44 then (shRow r).map fun p => (s :: p.1, p.2) else none
    else none
termination_by t.length
def shRows (t : List UInt8) : Option (List (List (List UInt8))) :=
  match t with
  | [] => some []
  | c :: r => match shRow (c :: r) with
    | none => none
    | some (x, more) => if _h : more.length < (c :: r).length then (shRows more).map (x :: ·) else none
termination_by t.length
def shReadP (t : List UInt8) : Option (List (List (List UInt8))) :=
  match shRows t with
  | none => none
  | some out => if shGood out = true ∧ shWrite out = t then some out else none
def shMach : List UInt8 → List (List (List UInt8)) → List (List UInt8) → List UInt8 → Bool → List (List (List UInt8))
  | [], out, _, _, _ => out
  | [c], out, row, cell, inside =>
    if c = 34 then out else if inside = true then out else if c = 10 then out ++ [row ++ [cell]] else out
  | c :: d :: r, out, row, cell, inside =>
    if c = 34 then
      (if inside = true ∧ d = 34 then shMach r out row (cell ++ [34]) inside else shMach (d :: r) out row cell (!inside))
    else if inside = true then shMach (d :: r) out row (cell ++ [c]) inside
    else if c = 44 then shMach (d :: r) out (row ++ [cell]) [] inside
    else if c = 10 then shMach (d :: r) (out ++ [row ++ [cell]]) [] [] inside
    else shMach (d :: r) out row (cell ++ [c]) inside
def shReadR (t : List UInt8) : Option (List (List (List UInt8))) := if shWrite (shMach t [] [] [] false) = t then some (shMach t [] [] [] false) else none
theorem inQ_dbl : ∀ (s : List UInt8) (c : UInt8) (r : List UInt8), c ≠ 34 → inQ (dblL s ++ 34 :: c :: r) = some (s, c :: r)
  | [], c, r, h => by simp [dblL, inQ, h]
  | x :: s, c, r, h => by
    have ih := inQ_dbl s c r h
    by_cases hx : x = 34
    · subst hx
      simp only [dblL, if_true, List.cons_append]
      rw [inQ, if_pos rfl, if_pos rfl, ih]; rfl
    · simp only [dblL, hx, if_false, List.cons_append]
      cases hd : dblL s ++ 34 :: c :: r with
      | nil => simp at hd
      | cons d l =>
        rw [inQ, if_neg hx, ← hd, ih]; rfl
theorem spanS_at : ∀ (s : List UInt8) (c : UInt8) (r : List UInt8), (c = 44 ∨ c = 10) → (∀ x ∈ s, ¬ (x = 44 ∨ x = 10)) → spanS (s ++ c :: r) = some (s, c :: r)
  | [], c, r, hc, _ => by simp only [List.nil_append, spanS, if_pos hc]
  | x :: s, c, r, hc, hs => by
    have ih := spanS_at s c r hc fun y hy => hs y (List.mem_cons_of_mem _ hy)
    simp only [List.cons_append, spanS, if_neg (hs x (List.mem_cons_self ..)), ih, Option.map_some]
theorem shodd_no {s : List UInt8} (h : s.any oddC = false) {x : UInt8} (hx : x ∈ s) : x ≠ 44 ∧ x ≠ 34 ∧ x ≠ 10 := by
  have := List.any_eq_false.1 h x hx
  simp only [oddC, Bool.or_eq_true, beq_iff_eq, not_or] at this
  exact ⟨this.1.1.1, this.1.1.2, this.1.2⟩
theorem shnext_cell (s : List UInt8) (al : Bool) (c : UInt8) (r : List UInt8) (hc : c = 44 ∨ c = 10) : shNext (shCell s al ++ c :: r) = some (s, c :: r) := by
  have hc34 : c ≠ 34 := by rcases hc with rfl | rfl <;> decide
  unfold shCell
  split
  · simp only [quoL, List.cons_append, List.append_assoc, List.nil_append, shNext, if_true]
    exact inQ_dbl s c r hc34
  · rename_i h
    have h2 : s.any oddC = false := by
      cases hh : s.any oddC
      · rfl
      · rw [hh, Bool.or_true] at h; exact absurd rfl h
    have hs : ∀ x ∈ s, ¬ (x = 44 ∨ x = 10) := fun x hx hx' => by
      have := shodd_no h2 hx
      rcases hx' with rfl | rfl
      · exact this.1 rfl
      · exact this.2.2 rfl
    have := spanS_at s c r hc hs
    cases s with
    | nil =>
      simp only [List.nil_append] at this ⊢
      simp only [shNext, if_neg hc34]
      exact this
    | cons x s =>
      simp only [List.cons_append] at this ⊢
      simp only [shNext, if_neg (shodd_no h2 (List.mem_cons_self ..)).2.1]
      exact this
theorem join_cons2 (a b : List UInt8) (l : List (List UInt8)) : Lib.join (a :: b :: l) [44] = a ++ 44 :: Lib.join (b :: l) [44] := by
  simp [Lib.join, List.intercalate]
theorem shrow_line (al : Bool) : ∀ (row : List (List UInt8)) (rest : List UInt8), row ≠ [] → shRow (Lib.join (row.map fun s => shCell s al) [44] ++ 10 :: rest) = some (row, rest)
  | [], _, h => absurd rfl h
  | [s], rest, _ => by
    have h1 : Lib.join ([s].map fun s => shCell s al) [44] = shCell s al := by simp [Lib.join, List.intercalate]
    rw [h1, shRow, shnext_cell s al 10 rest (.inr rfl)]
    simp
    omega
  | s :: t :: l, rest, _ => by
    have ih := shrow_line al (t :: l) rest (by simp)
    have h1 : Lib.join ((s :: t :: l).map fun s => shCell s al) [44] ++ 10 :: rest = shCell s al ++ 44 :: (Lib.join ((t :: l).map fun s => shCell s al) [44] ++ 10 :: rest) := by
      simp only [List.map_cons, join_cons2]
      simp
    rw [h1, shRow, shnext_cell s al 44 _ (.inl rfl)]
    simp only
    rw [dif_pos (by simp; omega), if_neg (by decide), if_pos trivial, ih]
    rfl
theorem shrow_lineL (row : List (List UInt8)) (rest : List UInt8) (h : row ≠ []) : shRow (shLine row ++ rest) = some (row, rest) := by
  have := shrow_line (decide (row.length = 1)) row rest h
  simpa [shLine] using this
theorem shline_ne (row : List (List UInt8)) : shLine row ≠ [] := by simp [shLine]
theorem rows_write : ∀ (rows : List (List (List UInt8))), shGood rows = true → shRows (shWrite rows) = some rows
  | [], _ => by simp [shWrite, shRows]
  | row :: rows, h => by
    simp only [shGood, List.all_cons, Bool.and_eq_true, Bool.not_eq_true', List.isEmpty_eq_false_iff] at h
    have ih := rows_write rows (by simpa [shGood] using h.2)
    have h1 : shWrite (row :: rows) = shLine row ++ shWrite rows := rfl
    have h2 := shrow_lineL row (shWrite rows) h.1
    rw [h1]
    cases hl : shLine row with
    | nil => exact absurd hl (shline_ne row)
    | cons c l =>
      rw [hl, List.cons_append] at h2
      rw [List.cons_append, shRows, h2]
      simp only
      rw [dif_pos (by simp; omega), ih]
      rfl
theorem mach_dbl : ∀ (s : List UInt8) (c : UInt8) (r : List UInt8) out row cell, c ≠ 34 → shMach (dblL s ++ 34 :: c :: r) out row cell true = shMach (c :: r) out row (cell ++ s) false
  | [], c, r, out, row, cell, h => by simp [dblL, shMach, h]
  | x :: s, c, r, out, row, cell, h => by
    by_cases hx : x = 34
    · subst hx
      simp only [dblL, if_true, List.cons_append]
      rw [shMach, if_pos rfl, if_pos ⟨rfl, rfl⟩, mach_dbl s c r _ _ _ h]
      simp
    · simp only [dblL, hx, if_false, List.cons_append]
      cases hd : dblL s ++ 34 :: c :: r with
      | nil => simp at hd
      | cons d l =>
        rw [shMach, if_neg hx, if_pos rfl, ← hd, mach_dbl s c r _ _ _ h]
        simp
theorem mach_plain : ∀ (s : List UInt8) (c : UInt8) (r : List UInt8) out row cell, (∀ x ∈ s, x ≠ 44 ∧ x ≠ 34 ∧ x ≠ 10) → shMach (s ++ c :: r) out row cell false = shMach (c :: r) out row (cell ++ s) false
  | [], c, r, out, row, cell, _ => by simp
  | x :: s, c, r, out, row, cell, h => by
    have hx := h x (List.mem_cons_self ..)
    have ih := mach_plain s c r out row (cell ++ [x]) fun y hy => h y (List.mem_cons_of_mem _ hy)
    rw [List.cons_append]
    cases hd : s ++ c :: r with
    | nil => simp at hd
    | cons d l =>
      rw [shMach, if_neg hx.2.1, if_neg (by decide), if_neg hx.1, if_neg hx.2.2, ← hd, ih]
      simp
theorem mach_cell (s : List UInt8) (al : Bool) (c : UInt8) (r : List UInt8) out row (hc : c = 44 ∨ c = 10) : shMach (shCell s al ++ c :: r) out row [] false = shMach (c :: r) out row s false := by
  have hc34 : c ≠ 34 := by rcases hc with rfl | rfl <;> decide
  unfold shCell
  split
  · simp only [quoL, List.cons_append, List.append_assoc, List.nil_append]
    have := mach_dbl s c r out row [] hc34
    cases hd : dblL s ++ 34 :: c :: r with
    | nil => simp at hd
    | cons d l =>
      rw [hd] at this
      rw [shMach, if_pos rfl, if_neg (by simp)]
      simpa using this
  · rename_i h
    have h2 : s.any oddC = false := by
      cases hh : s.any oddC
      · rfl
      · rw [hh, Bool.or_true] at h; exact absurd rfl h
    have := mach_plain s c r out row [] fun x hx => shodd_no h2 hx
    simpa using this
theorem mach_10 (r : List UInt8) out row cell : shMach (10 :: r) out row cell false = shMach r (out ++ [row ++ [cell]]) [] [] false := by
  cases r with
  | nil => simp [shMach]
  | cons d r => rw [shMach, if_neg (by decide), if_neg (by decide), if_neg (by decide), if_pos rfl]
theorem mach_44 (r : List UInt8) (h : r ≠ []) out row cell : shMach (44 :: r) out row cell false = shMach r out (row ++ [cell]) [] false := by
  cases r with
  | nil => exact absurd rfl h
  | cons d r => rw [shMach, if_neg (by decide), if_neg (by decide), if_pos rfl]
theorem mach_line (al : Bool) : ∀ (row : List (List UInt8)) (rest : List UInt8) out pre, row ≠ [] → shMach (Lib.join (row.map fun s => shCell s al) [44] ++ 10 :: rest) out pre [] false = shMach rest (out ++ [pre ++ row]) [] [] false
  | [], _, _, _, h => absurd rfl h
  | [s], rest, out, pre, _ => by
    have h1 : Lib.join ([s].map fun s => shCell s al) [44] = shCell s al := by simp [Lib.join, List.intercalate]
    rw [h1, mach_cell s al 10 rest _ _ (.inr rfl), mach_10]
  | s :: t :: l, rest, out, pre, _ => by
    have ih := mach_line al (t :: l) rest out (pre ++ [s]) (by simp)
    have h1 : Lib.join ((s :: t :: l).map fun s => shCell s al) [44] ++ 10 :: rest = shCell s al ++ 44 :: (Lib.join ((t :: l).map fun s => shCell s al) [44] ++ 10 :: rest) := by
      simp only [List.map_cons, join_cons2]
      simp
    rw [h1, mach_cell s al 44 _ _ _ (.inl rfl), mach_44 _ (by simp), ih]
    simp
theorem mach_write : ∀ (rows : List (List (List UInt8))) out, shGood rows = true → shMach (shWrite rows) out [] [] false = out ++ rows
  | [], out, _ => by simp [shWrite, shMach]
  | row :: rows, out, h => by
    simp only [shGood, List.all_cons, Bool.and_eq_true, Bool.not_eq_true', List.isEmpty_eq_false_iff] at h
    have ih := mach_write rows (out ++ [row]) (by simpa [shGood] using h.2)
    have h1 : shWrite (row :: rows) = Lib.join (row.map fun s => shCell s (decide (row.length = 1))) [44] ++ 10 :: shWrite rows := by
      simp [shWrite, shLine]
    rw [h1, mach_line _ row _ out [] h.1]
    simpa using ih
theorem mach_good : ∀ (t : List UInt8) out row cell inside, shGood out = true → shGood (shMach t out row cell inside) = true
  | [], out, row, cell, inside, h => by simpa [shMach] using h
  | [c], out, row, cell, inside, h => by
    have h2 : shGood (out ++ [row ++ [cell]]) = true := by simp only [shGood] at h ⊢; simp [h]
    unfold shMach
    split
    · exact h
    · split
      · exact h
      · split
        · exact h2
        · exact h
  | c :: d :: r, out, row, cell, inside, h => by
    have h2 : shGood (out ++ [row ++ [cell]]) = true := by simp only [shGood] at h ⊢; simp [h]
    unfold shMach
    split
    · split
      · exact mach_good _ _ _ _ _ h
      · exact mach_good _ _ _ _ _ h
    · split
      · exact mach_good _ _ _ _ _ h
      · split
        · exact mach_good _ _ _ _ _ h
        · split
          · exact mach_good _ _ _ _ _ h2
          · exact mach_good _ _ _ _ _ h
theorem shread_write {rows : List (List (List UInt8))} (h : shGood rows = true) : shReadP (shWrite rows) = some rows := by
  unfold shReadP
  rw [rows_write rows h]
  simp [h]
theorem shread_same (t : List UInt8) : shReadP t = shReadR t := by
  unfold shReadR
  split
  · rename_i h
    have hg := mach_good t [] [] [] false (by rfl)
    have := shread_write hg
    rw [h] at this
    exact this
  · rename_i h
    unfold shReadP
    split
    · rfl
    · split
      · rename_i hc
        have := mach_write _ [] hc.1
        rw [hc.2] at this
        exact absurd (by rw [this]; exact hc.2) h
      · rfl
theorem shindex_at {key r : List UInt8} {c : UInt8} (h : c ∉ key) : Lib.index (key ++ c :: r) [c] = key.length := by
  refine Lib.index_first (by simp) ((occ_one _ _ _).2 (by simp)) fun j hj => Bool.eq_false_iff.2 fun e => ?_
  have := (occ_one _ _ _).1 e
  rw [List.getElem?_append_left hj] at this
  exact h (List.mem_of_getElem? this)
theorem shindex_no {l : List UInt8} {c : UInt8} (h : c ∉ l) : Lib.index l [c] = -1 := Lib.index_none fun _ _ => Bool.eq_false_iff.2 fun e => h (List.mem_of_getElem? ((occ_one _ _ _).1 e))
theorem shcut_no {l : List UInt8} {c : UInt8} (h : c ∉ l) : Lib.cut l [c] = (l, [], false) := by
  unfold Lib.cut
  rw [shindex_no h, if_neg (by omega)]
theorem dbl_no : ∀ {s : List UInt8}, 34 ∉ s → dblL s = s
  | [], _ => rfl
  | c :: r, h => by
    rw [List.mem_cons, not_or] at h
    rw [dblL, if_neg (fun e => h.1 e.symm), dbl_no h.2]
theorem dbl_at : ∀ {p : List UInt8} (r : List UInt8), 34 ∉ p → dblL (p ++ 34 :: r) = p ++ 34 :: 34 :: dblL r
  | [], r, _ => by simp [dblL]
  | c :: p, r, h => by
    rw [List.mem_cons, not_or] at h
    rw [List.cons_append, dblL, if_neg (fun e => h.1 e.symm), dbl_at r h.2]; rfl
theorem repK_dbl : ∀ (k : Nat) (s : List UInt8), Lib.count s [34] ≤ k → Lib.replaceK [34] [34, 34] k s = dblL s
  | 0, s, h => by
    have hn : 34 ∉ s := fun hm => by
      obtain ⟨p, r, e, hp⟩ := List.eq_append_cons_of_mem hm
      have := Lib.count_hit (s := s) (sub := [34]) (by simp) (by rw [e]; exact shindex_at hp)
      omega
    rw [dbl_no hn]; rfl
  | k + 1, s, h => by
    by_cases hm : 34 ∈ s
    · obtain ⟨p, r, e, hp⟩ := List.eq_append_cons_of_mem hm
      have hi : Lib.index s [34] = p.length := by rw [e]; exact shindex_at hp
      have hc := Lib.count_hit (s := s) (sub := [34]) (by simp) hi
      have hd : s.drop (p.length + 1) = r := by rw [e, ← List.drop_drop, List.drop_left]; rfl
      rw [show p.length + [(34 : UInt8)].length = p.length + 1 from rfl, hd] at hc
      rw [Lib.replaceK_hit _ _ _ _ _ hi, show p.length + [(34 : UInt8)].length = p.length + 1 from rfl, hd, repK_dbl k r (by omega), e, dbl_at r hp, List.take_left]
      simp
    · rw [dbl_no hm, Lib.replaceK, shindex_no hm]; rfl
theorem rep_dbl (s : List UInt8) : Lib.replaceAll s [34] [34, 34] = dblL s := by
  unfold Lib.replaceAll Lib.replace Lib.replaceNum
  rw [if_neg (by decide), if_pos (.inl (by decide))]
  exact repK_dbl _ _ (Nat.le_refl _)
theorem dbl_len : ∀ s : List UInt8, (dblL s).length ≤ 2 * s.length
  | [] => by simp [dblL]
  | c :: r => by
    have := dbl_len r
    unfold dblL
    split <;> simp <;> omega
theorem any_odd : ∀ s : List UInt8, Lib.containsAny s [44, 34, 10, 13] = s.any oddC
  | [] => rfl
  | b :: l => by
    have ih := any_odd l
    have hb : ([44, 34, 10, 13] : List UInt8).contains b = oddC b := by simp only [oddC, List.contains_cons, List.contains_nil, Bool.or_false, Bool.or_assoc]
    have hg := Lib.indexAny_ge [44, 34, 10, 13] l
    unfold Lib.containsAny at ih ⊢
    rw [List.any_cons, ← ih, Lib.indexAny, hb]
    cases oddC b
    · simp only [Bool.false_eq_true, if_false, Bool.false_or]
      split
      · rename_i h
        rw [beq_iff_eq.1 h]
      · rename_i h
        have h : Lib.indexAny l [44, 34, 10, 13] ≠ -1 := fun e => h (beq_iff_eq.2 e)
        rw [decide_eq_true (by omega), decide_eq_true (by omega)]
    · simp
theorem span_ix : ∀ l : List UInt8, (Lib.indexAny l [44, 10] < 0 → spanS l = none) ∧ (0 ≤ Lib.indexAny l [44, 10] → spanS l = some (l.take (Lib.indexAny l [44, 10]).toNat, l.drop (Lib.indexAny l [44, 10]).toNat) ∧ (Lib.indexAny l [44, 10]).toNat ≤ l.length)
  | [] => ⟨fun _ => rfl, fun h => by simp [Lib.indexAny] at h⟩
  | b :: l => by
    obtain ⟨ih1, ih2⟩ := span_ix l
    have hg := Lib.indexAny_ge [44, 10] l
    have hb : ([44, 10] : List UInt8).contains b = true ↔ (b = 44 ∨ b = 10) := by simp
    by_cases h : b = 44 ∨ b = 10
    · have e : Lib.indexAny (b :: l) [44, 10] = 0 := by rw [Lib.indexAny, if_pos (hb.2 h)]
      rw [e]
      exact ⟨fun h => by omega, fun _ => ⟨by rw [spanS, if_pos h]; rfl, Nat.zero_le _⟩⟩
    · have e : Lib.indexAny (b :: l) [44, 10] = if Lib.indexAny l [44, 10] == -1 then -1 else Lib.indexAny l [44, 10] + 1 := by rw [Lib.indexAny, if_neg (fun h' => h (hb.1 h'))]
      rw [e, spanS, if_neg h]
      by_cases hm : Lib.indexAny l [44, 10] = -1
      · rw [hm]
        exact ⟨fun _ => by rw [ih1 (by omega)]; rfl, fun h => absurd h (by decide)⟩
      · rw [if_neg (fun h' => hm (beq_iff_eq.1 h'))]
        refine ⟨fun h => by omega, fun _ => ?_⟩
        obtain ⟨h1, h2⟩ := ih2 (by omega)
        rw [h1, show (Lib.indexAny l [44, 10] + 1).toNat = (Lib.indexAny l [44, 10]).toNat + 1 by omega]
        exact ⟨rfl, by simp; omega⟩
theorem inQ_no : ∀ {l : List UInt8}, 34 ∉ l → inQ l = none
  | [], _ => rfl
  | [c], h => by
    rw [List.mem_singleton] at h
    rw [inQ, if_neg (fun e => h e.symm)]
  | c :: d :: r, h => by
    rw [List.mem_cons, not_or] at h
    rw [inQ, if_neg (fun e => h.1 e.symm), inQ_no h.2]; rfl
theorem inQ_at : ∀ {p : List UInt8} (m : List UInt8), 34 ∉ p → inQ (p ++ 34 :: m) = if Lib.hasPrefix m [34] = true then (inQ (m.drop 1)).map (fun q => (p ++ 34 :: q.1, q.2)) else some (p, m)
  | [], [], _ => by simp [inQ, Lib.hasPrefix]
  | [], d :: r, _ => by
    rw [List.nil_append, inQ, if_pos rfl]
    by_cases h : d = 34
    · subst h
      simp [Lib.hasPrefix]
    · rw [if_neg h, if_neg (by simp [Lib.hasPrefix]; exact fun e => h e.symm)]
  | c :: p, m, h => by
    rw [List.mem_cons, not_or] at h
    have ih := inQ_at m h.2
    rw [List.cons_append]
    cases hd : p ++ 34 :: m with
    | nil => simp at hd
    | cons d l =>
      rw [inQ, if_neg (fun e => h.1 e.symm), ← hd, ih]
      split
      · rw [Option.map_map]; rfl
      · rfl
theorem inQ_cut (l : List UInt8) : inQ l = if (Lib.cut l [34]).2.2 = true then (if Lib.hasPrefix (Lib.cut l [34]).2.1 [34] = true then (inQ ((Lib.cut l [34]).2.1.drop 1)).map (fun q => ((Lib.cut l [34]).1 ++ 34 :: q.1, q.2)) else some ((Lib.cut l [34]).1, (Lib.cut l [34]).2.1)) else none := by
  by_cases hm : 34 ∈ l
  · obtain ⟨p, r, e, hp⟩ := List.eq_append_cons_of_mem hm
    rw [e, cut_at hp, inQ_at r hp]; rfl
  · rw [shcut_no hm, inQ_no hm]; rfl
theorem shcut_len {l : List UInt8} (h : (Lib.cut l [34]).2.2 = true) : (Lib.cut l [34]).1.length + 1 + (Lib.cut l [34]).2.1.length = l.length := by
  by_cases hm : 34 ∈ l
  · obtain ⟨p, r, e, hp⟩ := List.eq_append_cons_of_mem hm
    rw [e, cut_at hp]
    simp; omega
  · rw [shcut_no hm] at h; cases h
theorem inQ_len : ∀ {l a b : List UInt8}, inQ l = some (a, b) → a.length + b.length ≤ l.length
  | [], _, _, h => by simp [inQ] at h
  | [c], a, b, h => by
    rw [inQ] at h
    split at h
    · cases h; simp
    · cases h
  | c :: d :: r, a, b, h => by
    rw [inQ] at h
    split at h
    · split at h
      · cases hq : inQ r with
        | none => rw [hq] at h; cases h
        | some q =>
          rw [hq] at h; cases h
          have := inQ_len (a := q.1) (b := q.2) hq
          simp; omega
      · cases h; simp
    · cases hq : inQ (d :: r) with
      | none => rw [hq] at h; cases h
      | some q =>
        rw [hq] at h; cases h
        have := inQ_len (a := q.1) (b := q.2) hq
        simp at this ⊢; omega
theorem shspan_len : ∀ {l a b : List UInt8}, spanS l = some (a, b) → a.length + b.length ≤ l.length
  | [], _, _, h => by cases h
  | c :: r, a, b, h => by
    rw [spanS] at h
    split at h
    · cases h; simp
    · cases hq : spanS r with
      | none => rw [hq] at h; cases h
      | some q =>
        rw [hq] at h; cases h
        have := shspan_len (a := q.1) (b := q.2) hq
        simp; omega
theorem shnext_len {l a b : List UInt8} (h : shNext l = some (a, b)) : a.length + b.length ≤ l.length := by
  cases l with
  | nil => cases h
  | cons c r =>
    rw [shNext] at h
    split at h
    · have := inQ_len h; simp; omega
    · exact shspan_len h
theorem shrow_eq (t : List UInt8) : shRow t = match shNext t with
    | none => none
    | some (_, []) => none
    | some (s, c :: r) => if c = 10 then some ([s], r) else if c = 44 then (shRow r).map fun p => (s :: p.1, p.2) else none := by
  rw [shRow]
  split
  · rfl
  · rfl
  · rename_i s c r h
    have := shnext_len h
    simp only [List.length_cons] at this
    rw [dif_pos (by omega)]
theorem shrow_len (n : Nat) : ∀ {t : List UInt8} {row : List (List UInt8)} {more : List UInt8}, t.length ≤ n → shRow t = some (row, more) → more.length < t.length := by
  induction n with
  | zero =>
    intro t row more hn h
    have : t = [] := List.length_eq_zero_iff.1 (by omega)
    subst this
    rw [shrow_eq] at h
    cases h
  | succ n ih =>
    intro t row more hn h
    rw [shrow_eq] at h
    split at h
    · cases h
    · cases h
    · rename_i s c r hx
      have := shnext_len hx
      simp only [List.length_cons] at this
      split at h
      · cases h; omega
      · split at h
        · cases hq : shRow r with
          | none => rw [hq] at h; cases h
          | some q =>
            rw [hq] at h; cases h
            have := ih (t := r) (row := q.1) (more := q.2) (by omega) hq
            omega
        · cases h
theorem shrows_eq (t : List UInt8) (h0 : t ≠ []) : shRows t = match shRow t with
    | none => none
    | some (x, more) => (shRows more).map (x :: ·) := by
  cases t with
  | nil => exact absurd rfl h0
  | cons c r =>
    rw [shRows]
    cases hq : shRow (c :: r) with
    | none => rfl
    | some q =>
      simp only
      rw [dif_pos (shrow_len _ (row := q.1) (more := q.2) (Nat.le_refl _) hq)]
end Q
end Ab
end Go.Proofs.YtehmiepjeffloaaDoor
namespace Go.Proofs.YtehmiepjeffloaaDoor
open Go.RowKit
namespace Ab
set_option maxRecDepth 100000
namespace Q
def checkF (f : Fld) : Int := if keyOk f.1.data.toList = true then (if 1000 < f.2.size then 6 else 0) else 5
def errN (n : Int) : C := .lit (.iface 32 (.int .i64 n))
def errA (n : Int) : C := if n = 0 then .lit .nilIface else errN n
def cutL (l : List UInt8) : List UInt8 × List UInt8 × Bool := if kindL l = 4 then Lib.cut l [58] else ([], [], false)
def cutA (c : List UInt8 × List UInt8 × Bool) : A := .tup [(false, [.lit (.string (bytes c.1))]), (false, [.lit (.string (bytes c.2.1))]), (false, [.lit (.bool c.2.2)])]
end Q
end Ab
end Go.Proofs.YtehmiepjeffloaaDoor
namespace Go.Proofs.YtehmiepjeffloaaDoor
open Go.RowKit
namespace Ab
set_option maxRecDepth 100000
namespace Q
theorem replaceQ_c (s : ByteArray) (hs : s.size ≤ 1000000000) : ACall Tryd.prog 52 [is s, is ⟨#[34]⟩, is ⟨#[34, 34]⟩] (is (bytes (dblL (ls s)))) := by
  refine ⟨⟨_, Tryd.func52, rfl, rfl⟩, fun ok w vs hg hvs => ?_⟩
  obtain ⟨v, t, rfl, hv, v2, t2, rfl, hv2, v3, t3, rfl, hv3, ht⟩ := hvs
  rw [show t3 = [] from ht, show v = .string s from hv, show v2 = .string ⟨#[34]⟩ from hv2, show v3 = .string ⟨#[34, 34]⟩ from hv3]
  obtain ⟨_, _, m, hm⟩ := hg
  have hc := Lib.countB_le ⟨#[34]⟩ (by decide) _ s (Nat.le_refl _)
  refine (Tryd.strings_ReplaceAll s ⟨#[34]⟩ ⟨#[34, 34]⟩ m w (by omega) hm (by decide) (by
    have : Lib.countB s ⟨#[34]⟩ * ByteArray.size ⟨#[34, 34]⟩ ≤ 1000000001 * 2 := Nat.mul_le_mul (by omega) (by decide)
    omega)).mono ?_
  rintro e w' ⟨rfl, hb⟩
  refine ⟨_, rfl, hb, ?_⟩
  show Value.string _ = Value.string _
  rw [show (Lib.replaceAll s.data.toList (ByteArray.mk #[34]).data.toList (ByteArray.mk #[34, 34]).data.toList) = dblL (ls s) from rep_dbl _]; rfl
theorem conAny_c (s : ByteArray) (hs : s.size ≤ 1000000000) : ACall Tryd.prog 42 [is s, is ⟨#[44, 34, 10, 13]⟩] (ib ((ls s).any oddC)) :=
  acall2 ⟨_, Tryd.func42, rfl, rfl⟩ (fun _ _ => rfl) fun w _ => (conAny Tryd.lays150 (by kernel_rfl) s ⟨#[44, 34, 10, 13]⟩ w (by omega) (by decide) (by decide) (fun j b h => by
    have := List.mem_of_getElem? h
    simp at this
    rcases this with rfl | rfl | rfl | rfl <;> decide)).mono fun _ _ h => ⟨by rw [h.1, show Lib.containsAny s.data.toList (ByteArray.mk #[44, 34, 10, 13]).data.toList = (ls s).any oddC from any_odd _], h.2⟩
theorem idxAny_c (s : ByteArray) (hs : s.size ≤ 1000000000) : ACall Tryd.prog 47 [is s, is ⟨#[44, 10]⟩] (ii .i64 (Lib.indexAny (ls s) [44, 10])) :=
  acall2 ⟨_, Tryd.func47, rfl, rfl⟩ (fun _ _ => rfl) fun w _ => (idxAny Tryd.lays153 (by kernel_rfl) s ⟨#[44, 10]⟩ w (by omega) (by decide) (by decide) (fun j b h => by
    have := List.mem_of_getElem? h
    simp at this
    rcases this with rfl | rfl <;> decide)).mono fun _ _ h => h
theorem quo_b (l : List UInt8) : (⟨#[34]⟩ : ByteArray) ++ bytes (dblL l) ++ ⟨#[34]⟩ = bytes (quoL l) := by
  rw [show quoL l = [34] ++ dblL l ++ [34] by simp [quoL], bytes_app, bytes_app]; rfl
theorem quoted_c (s : ByteArray) (hs : s.size ≤ 1000000000) : ACall Tryd.prog 43 [is s] (is (bytes (quoL (ls s)))) := by
  have hz : s.size = (ls s).length := size_list s
  have hd := dbl_len (ls s)
  refine acall_of (rs := [2]) Tryd.func43 rfl rfl rfl teOk rfl ?_
  refine acode_seq ?_
  refine acode_region ?_
  refine acode_seq ?_
  refine acode_region ?_
  refine Or.inl ?_
  refine And.intro (rfl) ?_
  refine Exists.intro _ (And.intro (replaceQ_c s hs) ?_)
  refine And.intro (by unfold maxLen; have h1 : ByteArray.size ⟨#[34]⟩ = 1 := rfl; rw [bytes_size]; omega) ?_
  refine And.intro (by unfold maxLen; have h1 : ByteArray.size ⟨#[34]⟩ = 1 := rfl; rw [ByteArray.size_append, bytes_size]; omega) ?_
  refine acode_ret ?_
  exact is_eq (quo_b _)
theorem cell_yes {s : ByteArray} {al : Bool} (h : s = { data := #[] } ∧ al = true ∨ (ls s).any oddC = true) : (((ls s).isEmpty && al) || (ls s).any oddC) = true := by
  rcases h with ⟨h, h'⟩ | h
  · subst h; subst h'; rfl
  · rw [h, Bool.or_true]
theorem cell_not {s : ByteArray} {al : Bool} (h : (¬s = { data := #[] } ∨ al = false) ∧ (ls s).any oddC = false) : ¬ (((ls s).isEmpty && al) || (ls s).any oddC) = true := by
  rw [h.2, Bool.or_false]
  intro hc
  simp only [Bool.and_eq_true, List.isEmpty_iff] at hc
  rcases h.1 with h | h
  · exact h (ls_inj hc.1)
  · rw [h] at hc; exact absurd hc.2 (by decide)
theorem cell_c (s : ByteArray) (al : Bool) (hs : s.size ≤ 1000000000) : ACall Tryd.prog 33 [is s, ib al] (is (bytes (shCell (ls s) al))) := by
  refine acall_of (rs := [4]) Tryd.func33 rfl rfl rfl teOk rfl ?_
  refine acode_seq ?_
  refine acode_region ?_
  refine acode_seq ?_
  refine acode_seq ?_
  refine acode_region ?_
  refine And.intro (fun h => trivial) ?_
  refine And.intro (by exact fun h => h) ?_
  refine And.intro (fun h => trivial) ?_
  refine Or.inl ?_
  refine And.intro (rfl) ?_
  refine Exists.intro _ (And.intro (fun h => ⟨⟨⟨h, trivial⟩, trivial⟩, conAny_c s hs⟩) ?_)
  refine And.intro (by first | (intro h; rw [h]; rfl) | (intro h; cases h)) ?_
  refine acode_cond rfl (fun h13 => ?_) (fun h13 => ?_)
  ·try simp only [decide_eq_true_eq, Bool.and_eq_true, Bool.or_eq_true] at h13
   try simp only [Int.toNat_natCast, dflt_sl, dflt_st, dflt_str, dflt_int, dflt_bool] at h13
   refine acode_seq ?_
   refine acode_region ?_
   refine Or.inl ?_
   refine And.intro (rfl) ?_
   refine Exists.intro _ (And.intro (quoted_c s hs) ?_)
   refine acode_ret ?_
   exact is_eq (by rw [shCell, if_pos (cell_yes h13)])
  ·try simp only [decide_eq_false_iff_not, Bool.or_eq_false_iff, Bool.and_eq_false_iff] at h13
   try simp only [Int.toNat_natCast, dflt_sl, dflt_st, dflt_str, dflt_int, dflt_bool] at h13
   refine acode_skip ?_
   refine acode_seq ?_
   refine acode_region ?_
   refine acode_ret ?_
   exact is_eq (by rw [shCell, if_neg (cell_not h13), bytes_ls])
theorem each_c {κ : Nat} (f : FuncId) {β : Type} (S : Rd β) (y : β) (l : List ByteArray) (hl : l.length ≤ 1000000000) (p : ByteArray → ByteArray) (hp : ∀ x ∈ l, ACall Tryd.prog f [is x, .one (.adk κ S y)] (is (p x))) : ACall Tryd.prog 31 [.one (.sl .str l), .one (.clo f (.adk κ S y))] (.one (.sl .str (l.map p))) := by
  refine acall_of (rs := [4]) Tryd.func31 rfl rfl rfl teOk rfl ?_
  refine acode_seq ?_
  refine acode_region ?_
  refine acode_seq ?_
  refine acode_region ?_
  refine acode_seq ?_
  refine acode_seq ?_
  refine acode_nilvec 5 9 .str rfl ?_
  refine acode_region ?_
  intro l2_1
  try simp only [Int.toNat_natCast, dflt_sl, dflt_st, dflt_str, dflt_int, dflt_bool] at l2_1
  refine acode_block ?_
  refine acode_loopP (fun (i : Nat) => i ≤ l.length) (fun (i : Nat) => [(1, .one (.clo f (.adk κ S y))), (5, .one (.vec 0)), (8, .one (.sl .str l)), (9, ii .i64 l.length), (10, ii .i64 i)]) (fun (i : Nat) => [(0, .vec 9 .str ((l.take i).map p))]) 1 (fun (i : Nat) => l.length - i) 0 (Nat.zero_le _) (le_of ⟨rfl, rfl, rfl, rfl, rfl⟩ rfl rfl) ?_
  intro i hI0
  refine acode_seq ?_
  refine acode_region ?_
  refine acode_seq ?_
  refine acode_cond rfl (fun h11 => ?_) (fun h11 => ?_)
  ·try simp only [decide_eq_true_eq] at h11
   try simp only [Int.toNat_natCast, dflt_sl, dflt_st, dflt_str, dflt_int, dflt_bool] at h11
   refine acode_skip ?_
   refine acode_seq ?_
   refine acode_block ?_
   refine acode_seq ?_
   refine acode_region ?_
   refine And.intro (by first | omega | assumption | decide | (simp only [Int.toNat_natCast, dflt_sl, dflt_st, dflt_str, dflt_int, dflt_bool]; omega) | (simp <;> omega)) ?_
   refine acode_region ?_
   refine Or.inl ?_
   refine And.intro (rfl) ?_
   refine Exists.intro _ (And.intro (hp _ (getD_mem (show i < l.length by omega) _)) ?_)
   refine And.intro (by show (_ + 1) * 16 ≤ 140737488355328; rw [List.length_map, List.length_take]; omega) ?_
   refine acode_region ?_
   refine And.intro (by first | omega | assumption | decide | (simp only [Int.toNat_natCast, dflt_sl, dflt_st, dflt_str, dflt_int, dflt_bool]; omega) | (simp <;> omega)) ?_
   exact ⟨i + 1, by omega, by first | omega | (simp <;> omega), le_of ⟨rfl, rfl, rfl, rfl, (ii_eq (by omega))⟩ (vec_eq (map_take_succ p l _ i (by omega)).symm) rfl⟩
  ·try simp only [decide_eq_false_iff_not, Int.not_lt] at h11
   try simp only [Int.toNat_natCast, dflt_sl, dflt_st, dflt_str, dflt_int, dflt_bool] at h11
   refine acode_exit ?_
   refine acode_seq ?_
   refine acode_region ?_
   refine acode_ret ?_
   refine sl_eq ?_
   rw [List.take_of_length_le (by omega)]
def mR (r : List ByteArray) : Nat := (r.map fun s => s.size + 1).sum
def mT (t : List (List ByteArray)) : Nat := (t.map mR).sum
abbrev lss (r : List ByteArray) : List (List UInt8) := r.map ls
abbrev lst (t : List (List ByteArray)) : List (List (List UInt8)) := t.map lss
theorem mR_mem {r : List ByteArray} {s : ByteArray} (h : s ∈ r) : s.size + 1 ≤ mR r := by
  obtain ⟨a, b, rfl⟩ := List.append_of_mem h
  simp [mR]; omega
theorem mR_len : ∀ r : List ByteArray, r.length ≤ mR r
  | [] => Nat.le_refl _
  | s :: r => by have := mR_len r; simp [mR] at this ⊢; omega
theorem mT_mem {t : List (List ByteArray)} {r : List ByteArray} (h : r ∈ t) : mR r ≤ mT t := by
  obtain ⟨a, b, rfl⟩ := List.append_of_mem h
  simp [mT]; omega
theorem cell_len (s : List UInt8) (al : Bool) : (shCell s al).length ≤ 2 * s.length + 2 := by
  have := dbl_len s
  unfold shCell
  split
  · simp [quoL]; omega
  · omega
theorem joinC_len (al : Bool) : ∀ r : List ByteArray, (Lib.join (r.map fun s => shCell (ls s) al) [44]).length ≤ 3 * mR r
  | [] => by simp [Lib.join, List.intercalate]
  | [s] => by
    have := cell_len (ls s) al
    have hz : s.size = (ls s).length := size_list s
    simp [Lib.join, List.intercalate, mR] at this ⊢; omega
  | s :: t :: l => by
    have := cell_len (ls s) al
    have hz : s.size = (ls s).length := size_list s
    have ih := joinC_len al (t :: l)
    have e : mR (s :: t :: l) = s.size + 1 + mR (t :: l) := by simp [mR]
    simp only [List.map_cons] at ih ⊢
    rw [join_cons2, e]
    simp only [List.length_append, List.length_cons]
    omega
theorem shLine_len (r : List ByteArray) : (shLine (lss r)).length ≤ 3 * mR r + 1 := by
  have := joinC_len (decide (r.length = 1)) r
  unfold shLine
  rw [List.map_map, List.length_append, List.length_map]
  exact Nat.add_le_add_right this 1
theorem line1_c {κ : Nat} (row : List ByteArray) (s : ByteArray) (hs : s.size ≤ 1000000000) : ACall Tryd.prog 32 [is s, .one (.adk κ (.sl .str) row)] (is (bytes (shCell (ls s) (decide (row.length = 1))))) := by
  refine acall_of (rs := [3]) Tryd.func32 rfl rfl rfl teOk rfl ?_
  refine acode_seq ?_
  refine acode_region ?_
  refine acode_seq ?_
  refine acode_region ?_
  intro l1_2
  try simp only [Int.toNat_natCast, dflt_sl, dflt_st, dflt_str, dflt_int, dflt_bool] at l1_2
  refine Or.inl ?_
  refine And.intro (rfl) ?_
  refine Exists.intro _ (And.intro (cell_c s _ hs) ?_)
  refine acode_ret ?_
  exact is_eq (by rw [show decide ((row.length : Int) = 1) = decide (row.length = 1) from decide_eq_decide.2 (by omega)])
theorem lineJ (row : List ByteArray) (al : Bool) : Lib.join ((row.map fun s => bytes (shCell (ls s) al)).map (·.data.toList)) ((⟨#[44]⟩ : ByteArray).data.toList) = Lib.join (row.map fun s => shCell (ls s) al) [44] := by
  rw [List.map_map]
  show Lib.join (row.map fun s => (bytes (shCell (ls s) al)).data.toList) [44] = _
  simp only [bytes_list]
theorem line_c (row : List ByteArray) (hr : mR row ≤ 100000000) : ACall Tryd.prog 20 [.one (.sl .str row)] (is (bytes (shLine (lss row)))) := by
  have hl := mR_len row
  have hj := joinC_len (decide (row.length = 1)) row
  refine acall_of (rs := [2]) Tryd.func20 rfl rfl rfl teOk rfl ?_
  refine acode_seq ?_
  refine acode_region ?_
  refine acode_seq ?_
  refine acode_region ?_
  refine Or.inl ?_
  refine And.intro (rfl) ?_
  refine Exists.intro _ (And.intro (each_c 32 (.sl .str) row row (by omega) (fun s => bytes (shCell (ls s) (decide (row.length = 1)))) (fun x hx => line1_c row x (by have := mR_mem hx; omega))) ?_)
  refine acode_seq ?_
  refine acode_region ?_
  refine Or.inl ?_
  refine And.intro (rfl) ?_
  refine Exists.intro _ (And.intro (join_c _ _ (by rw [List.length_map]; omega) (by have := lineJ row (decide (row.length = 1)); exact Nat.le_trans (Nat.le_of_eq (congrArg List.length this)) (by omega))) ?_)
  refine And.intro (by unfold maxLen; rw [show ∀ l : List UInt8, ByteArray.size ⟨l.toArray⟩ = l.length from bytes_size]; have h1 : ByteArray.size ⟨#[10]⟩ = 1 := rfl; have := congrArg List.length (lineJ row (decide (row.length = 1))); omega) ?_
  refine acode_ret ?_
  refine is_eq ?_
  have := lineJ row (decide (row.length = 1))
  rw [show shLine (lss row) = Lib.join (row.map fun s => shCell (ls s) (decide (row.length = 1))) [44] ++ [10] by (unfold shLine; rw [List.map_map, List.length_map]; rfl), bytes_app, ← this]
  rfl
theorem index_CR (f : FuncId) (l : List (List ByteArray)) (p : List ByteArray → Bool) (hp : ∀ x ∈ l, ACall Tryd.prog f [.one (.sl .str x)] (ib (p x))) : ACall Tryd.prog 35 [.one (.sl (.sl .str) l), .one (.lit (.func (.func f) #[] #[]))] (ii .i64 (ixOf p l)) := by
  refine acall_of (rs := [4]) Tryd.func35 rfl rfl rfl teOk rfl ?_
  refine acode_seq ?_
  refine acode_region ?_
  refine acode_seq ?_
  refine acode_seq ?_
  refine acode_region ?_
  intro l1_1
  try simp only [Int.toNat_natCast, dflt_sl, dflt_st, dflt_str, dflt_int, dflt_bool] at l1_1
  refine acode_block ?_
  refine acode_loopP (fun (i : Nat) => i ≤ l.length ∧ (l.take i).any p = false) (fun (i : Nat) => [(0, .one (.sl (.sl .str) l)), (1, .one (.lit (.func (.func f) #[] #[]))), (7, ii .i64 l.length), (8, ii .i64 i)]) (fun (i : Nat) => []) 0 (fun (i : Nat) => l.length - i) 0 (⟨Nat.zero_le _, rfl⟩) (le_of ⟨rfl, rfl, rfl, rfl⟩ trivial rfl) ?_
  intro i hI0
  obtain ⟨hi, hn⟩ := hI0
  refine acode_seq ?_
  refine acode_region ?_
  refine acode_seq ?_
  refine acode_cond rfl (fun h9 => ?_) (fun h9 => ?_)
  ·try simp only [decide_eq_true_eq] at h9
   try simp only [Int.toNat_natCast, dflt_sl, dflt_st, dflt_str, dflt_int, dflt_bool] at h9
   refine acode_skip ?_
   refine acode_seq ?_
   refine acode_block ?_
   refine acode_seq ?_
   refine acode_region ?_
   refine acode_seq ?_
   refine acode_region ?_
   refine And.intro (by first | omega | assumption | decide | (simp only [Int.toNat_natCast, dflt_sl, dflt_st, dflt_str, dflt_int, dflt_bool]; omega) | (simp <;> omega)) ?_
   refine Or.inl ?_
   refine And.intro (rfl) ?_
   refine Exists.intro _ (And.intro (hp _ (getD_mem (show i < l.length by omega) _)) ?_)
   refine acode_cond rfl (fun h16 => ?_) (fun h16 => ?_)
   ·try simp only [decide_eq_true_eq, decide_eq_false_iff_not, Bool.and_eq_true, Bool.not_eq_true', Bool.not_eq_false', Bool.or_eq_false_iff, Bool.or_eq_true, Bool.and_eq_false_iff, Int.not_lt, Int.not_le] at h16
    try simp only [Int.toNat_natCast, dflt_sl] at h16
    refine acode_seq ?_
    refine acode_region ?_
    refine acode_ret ?_
    exact ii_eq (ixOf_at (Rd.sl .str).dflt (by omega) hn h16).symm
   ·try simp only [decide_eq_true_eq, decide_eq_false_iff_not, Bool.and_eq_true, Bool.not_eq_true', Bool.not_eq_false', Bool.or_eq_false_iff, Bool.or_eq_true, Bool.and_eq_false_iff, Int.not_lt, Int.not_le] at h16
    try simp only [Int.toNat_natCast, dflt_sl] at h16
    refine acode_skip ?_
    refine acode_region ?_
    refine And.intro (by first | omega | assumption | decide | (simp only [Int.toNat_natCast, dflt_sl, dflt_st, dflt_str, dflt_int, dflt_bool]; omega) | (simp <;> omega)) ?_
    exact ⟨i + 1, ⟨by omega, by rw [take_any l p (Rd.sl .str).dflt i (by omega), hn]; exact h16⟩, by first | omega | (simp <;> omega), le_of ⟨rfl, rfl, rfl, rfl⟩ trivial rfl⟩
  ·try simp only [decide_eq_false_iff_not, Int.not_lt] at h9
   try simp only [Int.toNat_natCast, dflt_sl, dflt_st, dflt_str, dflt_int, dflt_bool] at h9
   refine acode_exit ?_
   refine acode_seq ?_
   refine acode_region ?_
   refine acode_ret ?_
   have e : i = l.length := by omega
   subst e
   rw [List.take_length] at hn
   exact ii_eq (ixOf_none hn).symm
theorem contains_CR (f : FuncId) (l : List (List ByteArray)) (p : List ByteArray → Bool) (hp : ∀ x ∈ l, ACall Tryd.prog f [.one (.sl .str x)] (ib (p x))) : ACall Tryd.prog 22 [.one (.sl (.sl .str) l), .one (.lit (.func (.func f) #[] #[]))] (ib (l.any p)) := by
  refine acall_of (rs := [4]) Tryd.func22 rfl rfl rfl teOk rfl ?_
  refine acode_seq ?_
  refine acode_region ?_
  refine acode_seq ?_
  refine acode_region ?_
  refine Or.inl ?_
  refine And.intro (rfl) ?_
  refine Exists.intro _ (And.intro (index_CR f l p hp) ?_)
  refine acode_ret ?_
  exact ib_eq (ixOf_ge p l)
theorem emp_dec {α : Type} (r : List α) : decide ((r.length : Int) = 0) = r.isEmpty := by
  cases r with
  | nil => rfl
  | cons a l => simp; omega
theorem good1_c (r : List ByteArray) : ACall Tryd.prog 23 [.one (.sl .str r)] (ib r.isEmpty) := by
  refine acall_of (rs := [2]) Tryd.func23 rfl rfl rfl teOk rfl ?_
  refine acode_seq ?_
  refine acode_region ?_
  refine acode_seq ?_
  refine acode_region ?_
  intro l1_1
  try simp only [Int.toNat_natCast, dflt_sl, dflt_st, dflt_str, dflt_int, dflt_bool] at l1_1
  refine acode_ret ?_
  exact ib_eq (emp_dec r)
theorem good_any (rows : List (List ByteArray)) : (!rows.any fun r => r.isEmpty) = shGood rows := by
  unfold shGood
  rw [List.all_eq_not_any_not]
  simp
theorem Good_c (rows : List (List ByteArray)) : ACall Tryd.prog 8 [.one (.sl (.sl .str) rows)] (ib (shGood rows)) := by
  refine acall_of (rs := [2]) Tryd.func8 rfl rfl rfl teOk rfl ?_
  refine acode_seq ?_
  refine acode_region ?_
  refine acode_seq ?_
  refine acode_region ?_
  refine Or.inl ?_
  refine And.intro (rfl) ?_
  refine Exists.intro _ (And.intro (contains_CR _ _ (fun r => r.isEmpty) (fun x _ => good1_c x)) ?_)
  refine acode_ret ?_
  exact ib_eq (good_any rows)
theorem shWrite_len : ∀ rows : List (List ByteArray), (shWrite (lst rows)).length ≤ 3 * mT rows + rows.length
  | [] => by simp [shWrite]
  | r :: rows => by
    have ih := shWrite_len rows
    have hl := shLine_len r
    have e : shWrite (lst (r :: rows)) = shLine (lss r) ++ shWrite (lst rows) := rfl
    have e2 : mT (r :: rows) = mR r + mT rows := by simp [mT]
    rw [e, e2, List.length_append, List.length_cons]
    omega
theorem mT_take (rows : List (List ByteArray)) (i : Nat) : mT (rows.take i) ≤ mT rows := by
  conv => rhs; rw [← List.take_append_drop i rows]
  unfold mT
  rw [List.map_append, List.sum_append]
  omega
theorem shWrite_snoc (rows : List (List ByteArray)) {i : Nat} (h : i < rows.length) : shWrite (lst (rows.take (i + 1))) = shWrite (lst (rows.take i)) ++ shLine (lss (rows.getD i [])) := by
  rw [← take_snoc [] h]
  simp [shWrite, lst]
def shWrA (rows : List (List ByteArray)) : A := if shGood rows = true then .tup [(false, [.lit (.string (bytes (shWrite (lst rows))))]), (false, [.lit .nilIface])] else .tup [(false, [.lit (.string ⟨#[]⟩)]), (false, [errN 2])]
theorem Write_c (rows : List (List ByteArray)) (hm : mT rows ≤ 100000000) (hl : rows.length ≤ 100000000) : ACall Tryd.prog 6 [.one (.sl (.sl .str) rows)] (shWrA rows) := by
  refine acall_of (rs := [2, 3]) Tryd.func6 rfl rfl rfl teOk rfl ?_
  refine acode_seq ?_
  refine acode_region ?_
  refine acode_seq ?_
  refine acode_seq ?_
  refine acode_region ?_
  refine Or.inl ?_
  refine And.intro (rfl) ?_
  refine Exists.intro _ (And.intro (Good_c rows) ?_)
  refine acode_cond rfl (fun h9 => ?_) (fun h9 => ?_)
  ·try simp only [Bool.not_eq_true'] at h9
   try simp only [Int.toNat_natCast, dflt_sl, dflt_st, dflt_str, dflt_int, dflt_bool] at h9
   refine acode_seq ?_
   refine acode_region ?_
   refine acode_ret ?_
   unfold shWrA
   rw [if_neg (by rw [h9]; decide)]
   rfl
  ·try simp only [Bool.not_eq_false'] at h9
   try simp only [Int.toNat_natCast, dflt_sl, dflt_st, dflt_str, dflt_int, dflt_bool] at h9
   refine acode_skip ?_
   refine acode_seq ?_
   refine acode_region ?_
   refine acode_seq ?_
   refine acode_seq ?_
   refine acode_bld 0 5 (.int .u8) rfl ?_
   refine acode_region ?_
   intro l4_1
   try simp only [Int.toNat_natCast, dflt_sl, dflt_st, dflt_str, dflt_int, dflt_bool] at l4_1
   refine acode_block ?_
   refine acode_loopP (fun (x : Nat × Bool) => x.1 ≤ rows.length) (fun (x : Nat × Bool) => [(4, .one (.own 0 0)), (11, .one (.sl (.sl .str) rows)), (12, ii .i64 rows.length), (13, ii .i64 x.1)]) (fun (x : Nat × Bool) => [(0, .box 49 [.nself x.2 0, .vec 1]), (1, .vec 5 (.int .u8) (intsOf (bytes (shWrite (lst (rows.take x.1))))))]) 2 (fun (x : Nat × Bool) => rows.length - x.1) (0, false) (Nat.zero_le _) (le_of ⟨rfl, rfl, rfl, rfl⟩ ⟨rfl, rfl⟩ rfl) ?_
   intro ⟨i, u⟩ hI0
   simp only at hI0 ⊢
   have hi := hI0
   refine acode_seq ?_
   refine acode_region ?_
   refine acode_seq ?_
   refine acode_cond rfl (fun h14 => ?_) (fun h14 => ?_)
   ·try simp only [decide_eq_true_eq] at h14
    try simp only [Int.toNat_natCast, dflt_sl, dflt_st, dflt_str, dflt_int, dflt_bool] at h14
    have hil : i < rows.length := by omega
    have hmr : mR (rows.getD i []) ≤ mT rows := mT_mem (getD_mem hil [])
    have hwl := shWrite_len (rows.take i)
    have hmt := mT_take rows i
    have hll := shLine_len (rows.getD i [])
    rw [List.length_take] at hwl
    refine acode_skip ?_
    refine acode_seq ?_
    refine acode_block ?_
    refine acode_seq ?_
    refine acode_region ?_
    refine And.intro (by first | omega | assumption | decide | (simp only [Int.toNat_natCast, dflt_sl, dflt_st, dflt_str, dflt_int, dflt_bool]; omega) | (simp <;> omega)) ?_
    refine acode_region ?_
    refine Or.inl ?_
    refine And.intro (rfl) ?_
    refine Exists.intro _ (And.intro (line_c _ (Nat.le_trans hmr hm)) ?_)
    refine Or.inr (Or.inl (Exists.intro [] (Exists.intro [0, 1] (Exists.intro _ (Exists.intro _ (Exists.intro _ (Exists.intro _ (Exists.intro _ (And.intro (writeString_o _ _ _ (by rw [ints_len, bytes_size]; show _ + (shLine (lss (rows.getD i []))).length ≤ _; omega)) (And.intro rfl (And.intro (And.intro (And.intro rfl rfl) (And.intro (And.intro rfl rfl) True.intro)) (And.intro rfl ?_))))))))))))
    refine acode_region ?_
    refine And.intro (by first | omega | assumption | decide | (simp only [Int.toNat_natCast, dflt_sl, dflt_st, dflt_str, dflt_int, dflt_bool]; omega) | (simp <;> omega)) ?_
    exact ⟨(i + 1, true), (by simp only; omega), by first | omega | (simp <;> omega), le_of ⟨rfl, rfl, rfl, (ii_eq (by simp only; omega))⟩ ⟨rfl, (vec_eq (by simp only; rw [shWrite_snoc rows hil]; exact ints_add _ _ _ rfl))⟩ rfl⟩
   ·try simp only [decide_eq_false_iff_not, Int.not_lt] at h14
    try simp only [Int.toNat_natCast, dflt_sl, dflt_st, dflt_str, dflt_int, dflt_bool] at h14
    refine acode_exit ?_
    refine acode_seq ?_
    refine acode_region ?_
    refine Or.inr (Or.inl (Exists.intro [] (Exists.intro [0, 1] (Exists.intro _ (Exists.intro _ (Exists.intro _ (Exists.intro _ (Exists.intro _ (And.intro (string_o _ _) (And.intro rfl (And.intro (And.intro (And.intro rfl rfl) (And.intro (And.intro rfl rfl) True.intro)) (And.intro rfl ?_))))))))))))
    refine acode_ret ?_
    unfold shWrA
    rw [if_pos (by simpa using h9), List.take_of_length_le (by omega)]
    rfl
end Q
end Ab
end Go.Proofs.YtehmiepjeffloaaDoor
namespace Go.Proofs.YtehmiepjeffloaaDoor
open Go.RowKit
namespace Ab
set_option maxRecDepth 100000
namespace Q
def inQA (l : List UInt8) : List UInt8 × List UInt8 × Bool := match inQ l with
  | some p => (p.1, p.2, true)
  | none => ([], [], false)
def nextA (l : List UInt8) : List UInt8 × List UInt8 × Bool := match shNext l with
  | some p => (p.1, p.2, true)
  | none => ([], [], false)
theorem cutq_v (s : ByteArray) (c : List UInt8 × List UInt8 × Bool) (hc : Lib.cut (ls s) [34] = c) (hs : s.size ≤ 1000000000) : ACall Tryd.prog 55 [is s, is ⟨#[34]⟩] (cutA c) := by
  subst hc
  exact cut_c s ⟨#[34]⟩ (by omega)
theorem pre_b (l m : List UInt8) : Lib.hasPrefix (bytes l).data.toList m = Lib.hasPrefix l m := by rw [bytes_list]
theorem pre_cons {l : List UInt8} (h : Lib.hasPrefix l [34] = true) : ∃ r, l = 34 :: r := by
  cases l with
  | nil => simp [Lib.hasPrefix] at h
  | cons c r => simp [Lib.hasPrefix] at h; exact ⟨r, by rw [h]⟩
theorem ext_drop (l : List UInt8) (k : Nat) : (bytes l).extract k (bytes l).size = bytes (l.drop k) := by
  apply ByteArray.ext; apply Array.ext'
  rw [extract_ls, bytes_list, bytes_list, bytes_size, List.take_of_length_le (by rw [List.length_drop]; omega)]
theorem ext_s (s : ByteArray) (k : Nat) : s.extract k s.size = bytes ((ls s).drop k) := by
  have := ext_drop (ls s) k
  rwa [bytes_ls] at this
theorem string_v (u : Bool) (xs : List Int) (s : ByteArray) (h : xs = intsOf s) : ACallO Tryd.prog 21 [.one (.own 0 0)] (bldO u xs) 2 (is s) [] 2 := by subst h; exact string_o u s
theorem inQuotes_c (s : ByteArray) (h1 : 1 ≤ s.size) (hs : s.size ≤ 100000000) : ACall Tryd.prog 46 [is s] (cutA (inQA ((ls s).drop 1))) := by
  have hz : s.size = (ls s).length := size_list s
  refine acall_of (rs := [2, 3, 4]) Tryd.func46 rfl rfl rfl teOk rfl ?_
  refine acode_seq ?_
  refine acode_region ?_
  refine acode_seq ?_
  refine acode_region ?_
  refine acode_seq ?_
  refine acode_bld 0 5 (.int .u8) rfl ?_
  refine acode_region ?_
  refine And.intro (by omega) ?_
  refine acode_block ?_
  refine acode_loopP (fun (x : Bool × List UInt8 × List UInt8) => x.2.1.length + x.2.2.length ≤ s.size ∧ inQ ((ls s).drop 1) = (inQ x.2.1).map (fun q => (x.2.2 ++ q.1, q.2))) (fun (x : Bool × List UInt8 × List UInt8) => [(5, .one (.own 0 0)), (6, is (bytes x.2.1))]) (fun (x : Bool × List UInt8 × List UInt8) => [(0, .box 49 [.nself x.1 0, .vec 1]), (1, .vec 5 (.int .u8) (intsOf (bytes x.2.2)))]) 2 (fun (x : Bool × List UInt8 × List UInt8) => x.2.1.length) (false, (ls s).drop 1, []) (⟨by simp only [List.length_drop, List.length_nil]; omega, by simp only [List.nil_append]; cases inQ ((ls s).drop 1) <;> rfl⟩) (le_of ⟨rfl, (is_eq (ext_s s 1))⟩ ⟨rfl, rfl⟩ rfl) ?_
  intro ⟨u, rest, acc⟩ hI0
  simp only at hI0 ⊢
  obtain ⟨hb, hq⟩ := hI0
  obtain ⟨c, hc⟩ : ∃ c, Lib.cut rest [34] = c := ⟨_, rfl⟩
  have hq2 := inQ_cut rest
  rw [hc] at hq2
  have hcl := fun h => shcut_len (l := rest) h
  rw [hc] at hcl
  refine acode_block ?_
  refine acode_seq ?_
  refine acode_region ?_
  refine Or.inl ?_
  refine And.intro (rfl) ?_
  refine Exists.intro _ (And.intro (cutq_v _ c (by show Lib.cut (bytes rest).data.toList [34] = c; rw [bytes_list]; exact hc) (by rw [bytes_size]; omega)) ?_)
  refine acode_seq ?_
  refine acode_seq ?_
  refine acode_region ?_
  refine acode_cond rfl (fun h19 => ?_) (fun h19 => ?_)
  ·try simp only [Bool.not_eq_true'] at h19
   try simp only [Int.toNat_natCast, dflt_sl, dflt_st, dflt_str, dflt_int, dflt_bool] at h19
   refine acode_seq ?_
   refine acode_region ?_
   refine acode_ret ?_
   have e : inQA ((ls s).drop 1) = ([], [], false) := by (unfold inQA; rw [hq, hq2, if_neg (by rw [h19]; decide)]; rfl)
   rw [e]
   rfl
  ·try simp only [Bool.not_eq_false'] at h19
   try simp only [Int.toNat_natCast, dflt_sl, dflt_st, dflt_str, dflt_int, dflt_bool] at h19
   refine acode_skip ?_
   refine acode_seq ?_
   refine acode_region ?_
   refine Or.inr (Or.inl (Exists.intro [] (Exists.intro [0, 1] (Exists.intro _ (Exists.intro _ (Exists.intro _ (Exists.intro _ (Exists.intro _ (And.intro (writeString_o _ _ _ (by rw [ints_len, bytes_size]; have := hcl (by simpa using h19); omega)) (And.intro rfl (And.intro (And.intro (And.intro rfl rfl) (And.intro (And.intro rfl rfl) True.intro)) (And.intro rfl ?_))))))))))))
   refine acode_seq ?_
   refine acode_seq ?_
   refine acode_region ?_
   refine Or.inl ?_
   refine And.intro (rfl) ?_
   refine Exists.intro _ (And.intro (hasPrefix_c _ _) ?_)
   refine acode_cond rfl (fun h24 => ?_) (fun h24 => ?_)
   ·try simp only [Bool.not_eq_true'] at h24
    try simp only [Int.toNat_natCast, dflt_sl, dflt_st, dflt_str, dflt_int, dflt_bool] at h24
    have hpf : Lib.hasPrefix c.2.1 [34] = false := by have := h24; rw [← pre_b c.2.1 [34]]; simpa using this
    refine acode_seq ?_
    refine acode_region ?_
    refine Or.inr (Or.inl (Exists.intro [] (Exists.intro [0, 1] (Exists.intro _ (Exists.intro _ (Exists.intro _ (Exists.intro _ (Exists.intro _ (And.intro (string_v _ _ (bytes (acc ++ c.1)) (ints_app _ _)) (And.intro rfl (And.intro (And.intro (And.intro rfl rfl) (And.intro (And.intro rfl rfl) True.intro)) (And.intro rfl ?_))))))))))))
    refine acode_ret ?_
    have e : inQA ((ls s).drop 1) = (acc ++ c.1, c.2.1, true) := by (unfold inQA; rw [hq, hq2, if_pos (by simpa using h19), if_neg (by rw [hpf]; decide)]; rfl)
    rw [e]
    rfl
   ·try simp only [Bool.not_eq_false'] at h24
    try simp only [Int.toNat_natCast, dflt_sl, dflt_st, dflt_str, dflt_int, dflt_bool] at h24
    have hpt : Lib.hasPrefix c.2.1 [34] = true := by have := h24; rw [← pre_b c.2.1 [34]]; simpa using this
    obtain ⟨m, hm⟩ := pre_cons hpt
    have hml : c.2.1.length = m.length + 1 := by rw [hm]; rfl
    have hcl2 := hcl (by simpa using h19)
    refine acode_skip ?_
    refine acode_seq ?_
    refine acode_region ?_
    refine Or.inr (Or.inl (Exists.intro [] (Exists.intro [0, 1] (Exists.intro _ (Exists.intro _ (Exists.intro _ (Exists.intro _ (Exists.intro _ (And.intro (writeString_o _ _ _ (by rw [ints_app, ints_len, List.length_append]; have h1 : ByteArray.size ⟨#[34]⟩ = 1 := rfl; omega)) (And.intro rfl (And.intro (And.intro (And.intro rfl rfl) (And.intro (And.intro rfl rfl) True.intro)) (And.intro rfl ?_))))))))))))
    refine acode_region ?_
    refine And.intro (by rw [bytes_size]; omega) ?_
    exact ⟨(true, c.2.1.drop 1, acc ++ c.1 ++ [34]), ⟨by simp only [List.length_drop, List.length_append, List.length_singleton]; omega, by simp only; rw [hq, hq2, if_pos (by simpa using h19), if_pos hpt, Option.map_map]; congr 1; funext q; simp⟩, by first | omega | (simp <;> omega), le_of ⟨rfl, (is_eq (ext_drop c.2.1 1))⟩ ⟨rfl, (vec_eq (by rw [ints_app]; exact ints_add _ _ _ rfl))⟩ rfl⟩
theorem next_yes {l : List UInt8} (h : Lib.hasPrefix l [34] = true) : nextA l = inQA (l.drop 1) := by
  obtain ⟨r, rfl⟩ := pre_cons h
  unfold nextA inQA
  rw [shNext, if_pos rfl]
  try rfl
theorem next_not {l : List UInt8} (h : Lib.hasPrefix l [34] = false) : shNext l = spanS l := by
  cases l with
  | nil => rfl
  | cons c r => rw [shNext, if_neg (fun e => by subst e; simp [Lib.hasPrefix] at h)]
theorem tup3b {a a' b b' : ByteArray} {c : Bool} (h1 : a = a') (h2 : b = b') : A.tup [(false, [.lit (.string a)]), (false, [.lit (.string b)]), (false, [.lit (.bool c)])] = A.tup [(false, [.lit (.string a')]), (false, [.lit (.string b')]), (false, [.lit (.bool c)])] := by rw [h1, h2]
theorem row3_eq {a a' : List ByteArray} {b b' : ByteArray} {c : Bool} (h1 : a = a') (h2 : b = b') : A.tup [(false, [.sl .str a]), (false, [.lit (.string b)]), (false, [.lit (.bool c)])] = A.tup [(false, [.sl .str a']), (false, [.lit (.string b')]), (false, [.lit (.bool c)])] := by rw [h1, h2]
theorem ext_t (s : ByteArray) (k : Nat) : s.extract 0 k = bytes ((ls s).take k) := by
  apply ByteArray.ext; apply Array.ext'
  rw [extract_ls, bytes_list]; rfl
theorem next_c (s : ByteArray) (hs : s.size ≤ 100000000) : ACall Tryd.prog 36 [is s] (cutA (nextA (ls s))) := by
  have hz : s.size = (ls s).length := size_list s
  obtain ⟨hx1, hx2⟩ := span_ix (ls s)
  refine acall_of (rs := [2, 3, 4]) Tryd.func36 rfl rfl rfl teOk rfl ?_
  refine acode_seq ?_
  refine acode_region ?_
  refine acode_seq ?_
  refine acode_seq ?_
  refine acode_region ?_
  refine Or.inl ?_
  refine And.intro (rfl) ?_
  refine Exists.intro _ (And.intro (hasPrefix_c s ⟨#[34]⟩) ?_)
  refine acode_cond rfl (fun h7 => ?_) (fun h7 => ?_)
  ·skip
   have hp : Lib.hasPrefix (ls s) [34] = true := h7
   obtain ⟨m, hm⟩ := pre_cons hp
   have hml : (ls s).length = m.length + 1 := by rw [hm]; rfl
   refine acode_seq ?_
   refine acode_region ?_
   refine Or.inl ?_
   refine And.intro (rfl) ?_
   refine Exists.intro _ (And.intro (inQuotes_c s (by omega) hs) ?_)
   refine acode_ret ?_
   rw [next_yes hp]
   rfl
  ·skip
   have hn := next_not (l := ls s) h7
   refine acode_skip ?_
   refine acode_seq ?_
   refine acode_region ?_
   refine Or.inl ?_
   refine And.intro (rfl) ?_
   refine Exists.intro _ (And.intro (idxAny_c s (by omega)) ?_)
   refine acode_seq ?_
   refine acode_seq ?_
   refine acode_region ?_
   refine acode_cond rfl (fun h16 => ?_) (fun h16 => ?_)
   ·try simp only [decide_eq_true_eq] at h16
    try simp only [Int.toNat_natCast, dflt_sl, dflt_st, dflt_str, dflt_int, dflt_bool] at h16
    refine acode_seq ?_
    refine acode_region ?_
    refine acode_ret ?_
    have e : nextA (ls s) = ([], [], false) := by (unfold nextA; rw [hn, hx1 (by omega)])
    rw [e]
    rfl
   ·try simp only [decide_eq_false_iff_not, Int.not_lt] at h16
    try simp only [Int.toNat_natCast, dflt_sl, dflt_st, dflt_str, dflt_int, dflt_bool] at h16
    have hi0 : 0 ≤ Lib.indexAny (ls s) [44, 10] := by omega
    obtain ⟨hy1, hy2⟩ := hx2 hi0
    refine acode_skip ?_
    refine acode_seq ?_
    refine acode_draw rfl (by kernel_rfl) ?_
    refine And.intro (by omega) ?_
    refine And.intro (by omega) ?_
    refine acode_ret ?_
    have e : nextA (ls s) = ((ls s).take (Lib.indexAny (ls s) [44, 10]).toNat, (ls s).drop (Lib.indexAny (ls s) [44, 10]).toNat, true) := by (unfold nextA; rw [hn, hy1])
    rw [e]
    exact tup3b (ext_t s _) (ext_s s _)
def rowT (l : List UInt8) : List (List UInt8) × List UInt8 × Bool := match shRow l with
  | some p => (p.1, p.2, true)
  | none => ([], [], false)
def shRowA (c : List (List UInt8) × List UInt8 × Bool) : A := .tup [(false, [.sl .str (c.1.map bytes)]), (false, [.lit (.string (bytes c.2.1))]), (false, [.lit (.bool c.2.2)])]
theorem nextA_no {l : List UInt8} (h : (nextA l).2.2 = false ∨ (nextA l).2.1 = []) : shRow l = none := by
  rw [shrow_eq]
  unfold nextA at h
  cases hn : shNext l with
  | none => rfl
  | some p =>
    rw [hn] at h
    obtain ⟨a, b⟩ := p
    rcases h with h | h
    · cases h
    · have h : b = [] := h
      subst h; rfl
theorem nextA_yes {l : List UInt8} (h1 : (nextA l).2.2 = true) (h2 : (nextA l).2.1 ≠ []) : ∃ d r, (nextA l).2.1 = d :: r ∧ (shRow l = if d = 10 then some ([(nextA l).1], r) else if d = 44 then (shRow r).map (fun p => ((nextA l).1 :: p.1, p.2)) else none) ∧ (nextA l).1.length + (r.length + 1) ≤ l.length := by
  rw [shrow_eq]
  unfold nextA at h1 h2 ⊢
  cases hn : shNext l with
  | none => rw [hn] at h1; cases h1
  | some p =>
    rw [hn] at h2
    obtain ⟨a, b⟩ := p
    have hl := shnext_len hn
    cases b with
    | nil => exact absurd rfl h2
    | cons d r => exact ⟨d, r, rfl, rfl, by simpa using hl⟩
theorem next_v (s : ByteArray) (c : List UInt8 × List UInt8 × Bool) (hc : nextA (ls s) = c) (hs : s.size ≤ 100000000) : ACall Tryd.prog 36 [is s] (cutA c) := by
  subst hc; exact next_c s hs
theorem bytes_nil {l : List UInt8} : bytes l = ⟨#[]⟩ ↔ l = [] := by
  constructor
  · intro h
    have := congrArg (fun b => b.data.toList) h
    simpa [bytes_list] using this
  · rintro rfl; rfl
theorem ext_one (d : UInt8) (r : List UInt8) : (bytes (d :: r)).extract 0 1 = bytes [d] := by
  apply ByteArray.ext; apply Array.ext'
  rw [extract_ls, bytes_list, bytes_list]; rfl
theorem one_inj {d e : UInt8} (h : bytes [d] = bytes [e]) : d = e := by
  have := congrArg (fun b => b.data.toList) h
  simpa [bytes_list] using this
theorem row_c (s : ByteArray) (hs : s.size ≤ 100000000) : ACall Tryd.prog 25 [is s] (shRowA (rowT (ls s))) := by
  have hz : s.size = (ls s).length := size_list s
  refine acall_of (rs := [2, 3, 4]) Tryd.func25 rfl rfl rfl teOk rfl ?_
  refine acode_seq ?_
  refine acode_region ?_
  refine acode_seq ?_
  refine acode_region ?_
  refine acode_nilvec 5 9 .str rfl ?_
  refine acode_block ?_
  refine acode_loopP (fun (x : List UInt8 × List (List UInt8)) => x.2.length + x.1.length ≤ s.size ∧ shRow (ls s) = (shRow x.1).map (fun q => (x.2 ++ q.1, q.2))) (fun (x : List UInt8 × List (List UInt8)) => [(0, is (bytes x.1)), (5, .one (.vec 0))]) (fun (x : List UInt8 × List (List UInt8)) => [(0, .vec 9 .str (x.2.map bytes))]) 1 (fun (x : List UInt8 × List (List UInt8)) => x.1.length) (ls s, []) (⟨by simp only [List.length_nil]; omega, by simp only [List.nil_append]; cases shRow (ls s) <;> rfl⟩) (le_of ⟨(is_eq (bytes_ls s).symm), rfl⟩ rfl rfl) ?_
  intro ⟨rest, acc⟩ hI0
  simp only at hI0 ⊢
  obtain ⟨hb, hq⟩ := hI0
  obtain ⟨c, hc⟩ : ∃ c, nextA rest = c := ⟨_, rfl⟩
  refine acode_block ?_
  refine acode_seq ?_
  refine acode_region ?_
  refine Or.inl ?_
  refine And.intro (rfl) ?_
  refine Exists.intro _ (And.intro (next_v _ c (by show nextA (bytes rest).data.toList = c; rw [bytes_list]; exact hc) (by rw [bytes_size]; omega)) ?_)
  refine acode_seq ?_
  refine acode_seq ?_
  refine acode_region ?_
  refine And.intro (fun h => trivial) ?_
  refine And.intro (fun h => ⟨⟨h, trivial⟩, trivial⟩) ?_
  refine And.intro (by first | (intro h; rw [h]; rfl) | (intro h; cases h)) ?_
  refine acode_cond rfl (fun h20 => ?_) (fun h20 => ?_)
  ·try simp only [decide_eq_true_eq, Bool.not_eq_true', Bool.or_eq_true] at h20
   try simp only [Int.toNat_natCast, dflt_sl, dflt_st, dflt_str, dflt_int, dflt_bool] at h20
   have hno : shRow rest = none := nextA_no (by rw [hc]; exact h20.imp id bytes_nil.1)
   refine acode_seq ?_
   refine acode_region ?_
   refine acode_nilvec 2 9 .str rfl ?_
   refine acode_ret ?_
   have e : rowT (ls s) = ([], [], false) := by (unfold rowT; rw [hq, hno]; rfl)
   rw [e]
   rfl
  ·try simp only [decide_eq_false_iff_not, Bool.not_eq_false', Bool.or_eq_false_iff] at h20
   try simp only [Int.toNat_natCast, dflt_sl, dflt_st, dflt_str, dflt_int, dflt_bool] at h20
   obtain ⟨d, r, hd, hrow, hlen⟩ := nextA_yes (l := rest) (by rw [hc]; exact h20.1) (by rw [hc]; exact fun e => h20.2 (bytes_nil.2 e))
   rw [hc] at hd hrow hlen
   have hsz : (bytes c.2.1).size = r.length + 1 := by rw [bytes_size, hd]; rfl
   have hx : (bytes c.2.1).extract 0 1 = bytes [d] := by rw [hd]; exact ext_one d r
   have hx1 : (bytes c.2.1).extract 1 (bytes c.2.1).size = bytes r := by rw [ext_drop, hd]; rfl
   refine acode_skip ?_
   refine acode_seq ?_
   refine acode_region ?_
   refine And.intro (by show (_ + 1) * 16 ≤ 140737488355328; rw [List.length_map]; omega) ?_
   refine acode_seq ?_
   refine acode_region ?_
   refine And.intro (by omega) ?_
   refine acode_block ?_
   refine acode_seq ?_
   refine acode_region ?_
   refine acode_cond rfl (fun h27 => ?_) (fun h27 => ?_)
   ·try simp only [decide_eq_true_eq] at h27
    try simp only [Int.toNat_natCast, dflt_sl, dflt_st, dflt_str, dflt_int, dflt_bool] at h27
    have hd10 : d = 10 := one_inj (by rw [← hx]; exact h27)
    refine acode_seq ?_
    refine acode_draw rfl (by kernel_rfl) ?_
    refine And.intro (by omega) ?_
    refine acode_ret ?_
    have e : rowT (ls s) = (acc ++ [c.1], r, true) := by (unfold rowT; rw [hq, hrow, if_pos hd10]; rfl)
    rw [e]
    exact row3_eq (by rw [List.map_append]; rfl) hx1
   ·try simp only [decide_eq_false_iff_not] at h27
    try simp only [Int.toNat_natCast, dflt_sl, dflt_st, dflt_str, dflt_int, dflt_bool] at h27
    have hd10 : d ≠ 10 := fun e => h27 (by subst e; exact hx)
    refine acode_seq ?_
    refine acode_region ?_
    refine acode_cond rfl (fun h32 => ?_) (fun h32 => ?_)
    ·try simp only [decide_eq_true_eq] at h32
     try simp only [Int.toNat_natCast, dflt_sl, dflt_st, dflt_str, dflt_int, dflt_bool] at h32
     have hd44 : d = 44 := one_inj (by rw [← hx]; exact h32)
     refine acode_region ?_
     refine And.intro (by omega) ?_
     exact ⟨(r, acc ++ [c.1]), ⟨by simp only [List.length_append, List.length_singleton]; omega, by simp only; rw [hq, hrow, if_neg hd10, if_pos hd44, Option.map_map]; congr 1; funext q; simp⟩, by first | omega | (simp <;> omega), le_of ⟨(is_eq hx1), rfl⟩ (vec_eq (by rw [List.map_append]; rfl)) rfl⟩
    ·try simp only [decide_eq_false_iff_not] at h32
     try simp only [Int.toNat_natCast, dflt_sl, dflt_st, dflt_str, dflt_int, dflt_bool] at h32
     have hd44 : d ≠ 44 := fun e => h32 (by subst e; exact hx)
     refine acode_seq ?_
     refine acode_region ?_
     refine acode_nilvec 2 9 .str rfl ?_
     refine acode_ret ?_
     have e : rowT (ls s) = ([], [], false) := by (unfold rowT; rw [hq, hrow, if_neg hd10, if_neg hd44]; rfl)
     rw [e]
     rfl
abbrev uns (r : List (List UInt8)) : List ByteArray := r.map bytes
abbrev unt (t : List (List (List UInt8))) : List (List ByteArray) := t.map uns
theorem lss_uns (r : List (List UInt8)) : lss (uns r) = r := by
  simp only [lss, uns, List.map_map]
  conv => rhs; rw [← List.map_id r]
  exact List.map_congr_left fun x _ => bytes_list x
theorem lst_unt (t : List (List (List UInt8))) : lst (unt t) = t := by
  simp only [lst, unt, List.map_map]
  conv => rhs; rw [← List.map_id t]
  exact List.map_congr_left fun x _ => lss_uns x
def mL (r : List (List UInt8)) : Nat := (r.map fun s => s.length + 1).sum
theorem mR_uns (r : List (List UInt8)) : mR (uns r) = mL r := by
  simp only [mR, mL, uns, List.map_map]
  exact congrArg List.sum (List.map_congr_left fun x _ => by show (bytes x).size + 1 = _; rw [bytes_size])
theorem row_meas (n : Nat) : ∀ {t : List UInt8} {row : List (List UInt8)} {more : List UInt8}, t.length ≤ n → shRow t = some (row, more) → mL row + more.length ≤ t.length ∧ row ≠ [] := by
  induction n with
  | zero =>
    intro t row more hn h
    have : t = [] := List.length_eq_zero_iff.1 (by omega)
    subst this
    rw [shrow_eq] at h
    cases h
  | succ n ih =>
    intro t row more hn h
    rw [shrow_eq] at h
    split at h
    · cases h
    · cases h
    · rename_i s c r hx
      have := shnext_len hx
      simp only [List.length_cons] at this
      split at h
      · cases h; simp [mL]; omega
      · split at h
        · cases hq : shRow r with
          | none => rw [hq] at h; cases h
          | some q =>
            rw [hq] at h; cases h
            have := (ih (t := r) (row := q.1) (more := q.2) (by omega) hq).1
            refine ⟨?_, by simp⟩
            simp only [mL, List.map_cons, List.sum_cons] at this ⊢
            omega
        · cases h
theorem mL_pos {r : List (List UInt8)} (h : r ≠ []) : 1 ≤ mL r := by
  cases r with
  | nil => exact absurd rfl h
  | cons a l => simp [mL]; omega
theorem mT_snoc (a : List (List (List UInt8))) (r : List (List UInt8)) : mT (unt (a ++ [r])) = mT (unt a) + mL r := by
  rw [← mR_uns]
  simp [mT, unt, List.sum_append]
theorem good_snoc {a : List (List (List UInt8))} {r : List (List UInt8)} (h : shGood a = true) (hr : r ≠ []) : shGood (a ++ [r]) = true := by
  simp only [shGood, List.all_append, List.all_cons, List.all_nil, Bool.and_true, Bool.and_eq_true] at h ⊢
  exact ⟨h, by cases r with
    | nil => exact absurd rfl hr
    | cons _ _ => rfl⟩
theorem rowT_no {l : List UInt8} (h : (rowT l).2.2 = false) : shRow l = none := by
  unfold rowT at h
  cases hn : shRow l with
  | none => rfl
  | some p => rw [hn] at h; cases h
theorem rowT_yes {l : List UInt8} (h : (rowT l).2.2 = true) : shRow l = some ((rowT l).1, (rowT l).2.1) := by
  unfold rowT at h ⊢
  cases hn : shRow l with
  | none => rw [hn] at h; cases h
  | some p => rfl
theorem row_v (s : ByteArray) (c : List (List UInt8) × List UInt8 × Bool) (hc : rowT (ls s) = c) (hs : s.size ≤ 100000000) : ACall Tryd.prog 25 [is s] (shRowA c) := by
  subst hc; exact row_c s hs
theorem write_yes (rows : List (List ByteArray)) (hg : shGood rows = true) (hm : mT rows ≤ 100000000) (hl : rows.length ≤ 100000000) : ACall Tryd.prog 6 [.one (.sl (.sl .str) rows)] (.tup [(false, [.lit (.string (bytes (shWrite (lst rows))))]), (false, [.lit .nilIface])]) := by
  have := Write_c rows hm hl
  unfold shWrA at this
  rwa [if_pos hg] at this
def shReadA (o : Option (List (List (List UInt8)))) : A := match o with
  | some rows => .tup [(false, [.sl (.sl .str) (unt rows)]), (false, [.lit .nilIface])]
  | none => .tup [(false, [.sl (.sl .str) []]), (false, [errN 2])]
theorem good_unt (t : List (List (List UInt8))) : shGood (unt t) = shGood t := by
  simp only [shGood, unt, List.all_map]
  congr 1; funext r; simp [uns]
theorem Read_c (s : ByteArray) (hs : s.size ≤ 60000) : ACall Tryd.prog 11 [is s] (shReadA (shReadP (ls s))) := by
  have hz : s.size = (ls s).length := size_list s
  refine acall_of (rs := [2, 3]) Tryd.func11 rfl rfl rfl teOk rfl ?_
  refine acode_seq ?_
  refine acode_region ?_
  refine acode_seq ?_
  refine acode_seq ?_
  refine acode_region ?_
  refine acode_cond rfl (fun h13 => ?_) (fun h13 => ?_)
  ·try simp only [decide_eq_true_eq] at h13
   try simp only [Int.toNat_natCast, dflt_sl, dflt_st, dflt_str, dflt_int, dflt_bool] at h13
   omega
  ·try simp only [decide_eq_false_iff_not, Int.not_lt] at h13
   try simp only [Int.toNat_natCast, dflt_sl, dflt_st, dflt_str, dflt_int, dflt_bool] at h13
   refine acode_skip ?_
   refine acode_seq ?_
   refine acode_region ?_
   refine acode_nilvec 4 24 (.sl .str) rfl ?_
   refine acode_seq ?_
   refine acode_seq ?_
   refine acode_region ?_
   refine acode_block ?_
   refine acode_loopP (fun (x : List UInt8 × List (List (List UInt8))) => mT (unt x.2) + x.1.length ≤ s.size ∧ x.2.length + x.1.length ≤ s.size ∧ shGood x.2 = true ∧ shRows (ls s) = (shRows x.1).map (fun q => x.2 ++ q)) (fun (x : List UInt8 × List (List (List UInt8))) => [(0, is s), (4, .one (.vec 0)), (5, is (bytes x.1))]) (fun (x : List UInt8 × List (List (List UInt8))) => [(0, .vec 24 (.sl .str) (unt x.2))]) 1 (fun (x : List UInt8 × List (List (List UInt8))) => x.1.length) (ls s, []) (⟨by show 0 + (ls s).length ≤ s.size; omega, by simp only [List.length_nil]; omega, rfl, by simp only [List.nil_append]; cases shRows (ls s) <;> rfl⟩) (le_of ⟨rfl, rfl, (is_eq (bytes_ls s).symm)⟩ rfl rfl) ?_
   intro ⟨rest, acc⟩ hI0
   simp only at hI0 ⊢
   obtain ⟨hb, hb2, hg, hq⟩ := hI0
   obtain ⟨c, hc⟩ : ∃ c, rowT rest = c := ⟨_, rfl⟩
   refine acode_seq ?_
   refine acode_seq ?_
   refine acode_region ?_
   refine acode_cond rfl (fun h17 => ?_) (fun h17 => ?_)
   ·try simp only [decide_eq_false_iff_not, Bool.not_eq_true'] at h17
    try simp only [Int.toNat_natCast, dflt_sl, dflt_st, dflt_str, dflt_int, dflt_bool] at h17
    have hne : rest ≠ [] := fun e => h17 (by rw [e]; rfl)
    have hre := shrows_eq rest hne
    refine acode_skip ?_
    refine acode_block ?_
    refine acode_seq ?_
    refine acode_region ?_
    refine Or.inl ?_
    refine And.intro (rfl) ?_
    refine Exists.intro _ (And.intro (row_v _ c (by show rowT (bytes rest).data.toList = c; rw [bytes_list]; exact hc) (by rw [bytes_size]; omega)) ?_)
    refine acode_seq ?_
    refine acode_seq ?_
    refine acode_region ?_
    refine acode_cond rfl (fun h25 => ?_) (fun h25 => ?_)
    ·try simp only [Bool.not_eq_true'] at h25
     try simp only [Int.toNat_natCast, dflt_sl, dflt_st, dflt_str, dflt_int, dflt_bool] at h25
     have hno := rowT_no (l := rest) (by rw [hc]; exact h25)
     refine acode_seq ?_
     refine acode_region ?_
     refine acode_nilvec 2 24 (.sl .str) rfl ?_
     refine acode_ret ?_
     have e : shReadP (ls s) = none := by (unfold shReadP; rw [hq, hre, hno]; rfl)
     rw [e]
     rfl
    ·try simp only [Bool.not_eq_false'] at h25
     try simp only [Int.toNat_natCast, dflt_sl, dflt_st, dflt_str, dflt_int, dflt_bool] at h25
     have hr := rowT_yes (l := rest) (by rw [hc]; simpa using h25)
     rw [hc] at hr
     obtain ⟨hme, hcn⟩ := row_meas _ (Nat.le_refl _) hr
     have hm1 := mL_pos hcn
     refine acode_skip ?_
     refine acode_region ?_
     refine And.intro (by show (_ + 1) * 24 ≤ 140737488355328; rw [List.length_map]; omega) ?_
     exact ⟨(c.2.1, acc ++ [c.1]), ⟨by simp only; rw [mT_snoc]; omega, by simp only [List.length_append, List.length_singleton]; omega, good_snoc hg hcn, by simp only; rw [hq, hre, hr]; simp only [Option.map_map]; congr 1; funext q; simp⟩, by first | omega | (simp <;> omega), le_of ⟨rfl, rfl, rfl⟩ (vec_eq (by show List.map uns acc ++ [uns c.1] = List.map uns (acc ++ [c.1]); rw [List.map_append]; rfl)) rfl⟩
   ·try simp only [decide_eq_true_eq, Bool.not_eq_false'] at h17
    try simp only [Int.toNat_natCast, dflt_sl, dflt_st, dflt_str, dflt_int, dflt_bool] at h17
    have hnil : rest = [] := bytes_nil.1 h17
    have hall : shRows (ls s) = some acc := by rw [hq, hnil]; simp [shRows]
    refine acode_exit ?_
    refine acode_seq ?_
    refine acode_seq ?_
    refine acode_region ?_
    refine Or.inl ?_
    refine And.intro (rfl) ?_
    refine Exists.intro _ (And.intro (write_yes (unt acc) (by rw [good_unt]; exact hg) (by omega) (by rw [List.length_map]; omega)) ?_)
    refine acode_seq ?_
    refine acode_region ?_
    refine And.intro (fun h => trivial) ?_
    refine And.intro (fun h => trivial) ?_
    refine And.intro (fun h => ⟨⟨h, trivial⟩, ⟨h, trivial⟩, trivial⟩) ?_
    refine And.intro (by first | (intro h; rw [h]; rfl) | (intro h; cases h)) ?_
    refine acode_cond rfl (fun h43 => ?_) (fun h43 => ?_)
    ·try simp only [decide_eq_false_iff_not, Bool.not_eq_true', Bool.or_eq_true] at h43
     try simp only [Int.toNat_natCast, dflt_sl, dflt_st, dflt_str, dflt_int, dflt_bool] at h43
     refine acode_seq ?_
     refine acode_region ?_
     refine acode_nilvec 2 24 (.sl .str) rfl ?_
     refine acode_ret ?_
     have e : shReadP (ls s) = none := by (unfold shReadP; rw [hall]; exact if_neg (fun h => h43.elim (fun e => by cases e) (fun e => e (by rw [lst_unt, h.2, bytes_ls]))))
     rw [e]
     rfl
    ·try simp only [decide_eq_true_eq, Bool.not_eq_false', Bool.or_eq_false_iff] at h43
     try simp only [Int.toNat_natCast, dflt_sl, dflt_st, dflt_str, dflt_int, dflt_bool] at h43
     refine acode_skip ?_
     refine acode_seq ?_
     refine acode_region ?_
     refine acode_ret ?_
     have e : shReadP (ls s) = some acc := by (unfold shReadP; rw [hall]; exact if_pos ⟨hg, by have := h43.2; rw [lst_unt] at this; rw [← this, ls, bytes_list]⟩)
     rw [e]
     rfl
end Q
end Ab
end Go.Proofs.YtehmiepjeffloaaDoor
namespace Go.Proofs.YtehmiepjeffloaaDoor
open Go.RowKit
namespace Ab
set_option maxRecDepth 100000
namespace Q
def cellsJ (row : List ByteArray) (j : Nat) : List UInt8 := Lib.join ((row.take j).map fun s => shCell (ls s) (decide (row.length = 1))) [44]
theorem dbl_app (l m : List UInt8) : dblL (l ++ m) = dblL l ++ dblL m := by
  induction l with
  | nil => rfl
  | cons c r ih =>
    rw [List.cons_append, dblL, dblL, ih]
    split <;> rfl
theorem dbl_yes (l : List UInt8) {x : UInt8} {e : ByteArray} (hx : e = bytes [x]) (h : e = ⟨#[34]⟩) : bytes (dblL l) ++ e ++ e = bytes (dblL (l ++ [x])) := by
  have hx34 : x = 34 := one_inj (by rw [← hx, h]; rfl)
  subst hx34
  rw [dbl_app, bytes_app, hx, ByteArray.append_assoc, ← bytes_app]; rfl
theorem dbl_not (l : List UInt8) {x : UInt8} {e : ByteArray} (hx : e = bytes [x]) (h : ¬ e = ⟨#[34]⟩) : bytes (dblL l) ++ e = bytes (dblL (l ++ [x])) := by
  have hx34 : x ≠ 34 := fun e2 => h (by rw [hx, e2]; rfl)
  rw [dbl_app, bytes_app, hx, show dblL [x] = [x] by simp [dblL, hx34]]
theorem dec_one (x y : UInt8) : decide (bytes [x] = ⟨#[y]⟩) = (x == y) := by
  by_cases h : x = y
  · subst h; rw [decide_eq_true (by rfl)]; simp
  · rw [decide_eq_false (fun e => h (one_inj (e.trans rfl)))]; simp [h]
theorem odd_dec (b : Bool) (x : UInt8) : ((((b || decide (bytes [x] = ⟨#[44]⟩)) || decide (bytes [x] = ⟨#[34]⟩)) || decide (bytes [x] = ⟨#[10]⟩)) || decide (bytes [x] = ⟨#[13]⟩)) = (b || [x].any oddC) := by
  rw [dec_one, dec_one, dec_one, dec_one]
  simp [oddC, Bool.or_assoc]
theorem alone_eq (s : ByteArray) (r : List ByteArray) : (decide (s = ⟨#[]⟩) && decide ((r.length : Int) = 1)) = ((s.data.toList.isEmpty && decide (r.length = 1)) || ((ls s).take 0).any oddC) := by
  rw [List.take_zero, List.any_nil, Bool.or_false, show decide ((r.length : Int) = 1) = decide (r.length = 1) from decide_eq_decide.2 (by omega)]
  congr 1
  by_cases h : s = ⟨#[]⟩
  · subst h; rfl
  · rw [decide_eq_false h]
    cases he : s.data.toList.isEmpty
    · rfl
    · exact absurd (ls_inj (List.isEmpty_iff.1 he)) h
theorem cells_snoc (row : List ByteArray) {j : Nat} (h : j < row.length) (h0 : 0 < j) : cellsJ row (j + 1) = cellsJ row j ++ 44 :: shCell (ls (row.getD j ByteArray.empty)) (decide (row.length = 1)) := by
  unfold cellsJ
  rw [← take_snoc ByteArray.empty h, List.map_append]
  have hne : (row.take j).map (fun s => shCell (ls s) (decide (row.length = 1))) ≠ [] := by
    intro e
    have := congrArg List.length e
    rw [List.length_map, List.length_take, List.length_nil] at this
    omega
  generalize (row.take j).map (fun s => shCell (ls s) (decide (row.length = 1))) = xs at hne
  show Lib.join (xs ++ [_]) [44] = _
  clear h h0
  induction xs with
  | nil => exact absurd rfl hne
  | cons a t ih =>
    cases t with
    | nil => simp [Lib.join, List.intercalate]
    | cons b u =>
      have := ih (by simp)
      rw [List.cons_append, List.cons_append, join_cons2, ← List.cons_append, this, join_cons2]
      simp
theorem cells_one (row : List ByteArray) (h : 0 < row.length) : cellsJ row 1 = shCell (ls (row.getD 0 ByteArray.empty)) (decide (row.length = 1)) := by
  unfold cellsJ
  rw [show row.take 1 = [row.getD 0 ByteArray.empty] from (take_snoc ByteArray.empty h).symm]
  simp [Lib.join, List.intercalate]
theorem cells_all (row : List ByteArray) : cellsJ row row.length ++ [10] = shLine (lss row) := by
  unfold cellsJ shLine
  rw [List.take_length, List.map_map, List.length_map]; rfl
theorem cells_len (row : List ByteArray) (j : Nat) : (cellsJ row j).length ≤ 3 * mR row := by
  have := joinC_len (decide (row.length = 1)) (row.take j)
  have h2 : mR (row.take j) ≤ mR row := by
    conv => rhs; rw [← List.take_append_drop j row]
    unfold mR
    rw [List.map_append, List.sum_append]; omega
  unfold cellsJ
  omega
theorem out_len (rows : List (List ByteArray)) (i : Nat) (row : List ByteArray) (j : Nat) (hm : mT rows ≤ 100000000) (hl : rows.length ≤ 100000000) (hr : mR row ≤ mT rows) : (bytes (shWrite (lst (rows.take i)) ++ cellsJ row j)).size ≤ 700000000 := by
  have h1 := shWrite_len (rows.take i)
  have h2 := mT_take rows i
  have h3 := cells_len row j
  rw [List.length_take] at h1
  rw [bytes_size, List.length_append]; omega
theorem in_yes {s : ByteArray} {n k : Nat} (hk : k = s.size) (h : s.data.toList.isEmpty = true ∧ n = 1 ∨ ((ls s).take k).any oddC = true) : (⟨#[34]⟩ : ByteArray) ++ bytes (dblL ((ls s).take k)) ++ ⟨#[34]⟩ = bytes (shCell (ls s) (decide (n = 1))) := by
  have e : (ls s).take k = ls s := List.take_of_length_le (by rw [hk, size_list]; exact Nat.le_refl _)
  rw [e] at h ⊢
  rw [quo_b, shCell, if_pos]
  rcases h with ⟨h1, h2⟩ | h
  · rw [show (ls s).isEmpty = true from h1, decide_eq_true h2]; rfl
  · rw [h, Bool.or_true]
theorem in_not {s : ByteArray} {n k : Nat} (hk : k = s.size) (h : (s.data.toList.isEmpty = false ∨ ¬ n = 1) ∧ ((ls s).take k).any oddC = false) : bytes (dblL ((ls s).take k)) = bytes (shCell (ls s) (decide (n = 1))) := by
  have e : (ls s).take k = ls s := List.take_of_length_le (by rw [hk, size_list]; exact Nat.le_refl _)
  rw [e] at h ⊢
  have h34 : 34 ∉ ls s := fun hm => (shodd_no h.2 hm).2.1 rfl
  rw [dbl_no h34, shCell, if_neg]
  rw [h.2, Bool.or_false]
  intro hc
  simp only [Bool.and_eq_true, decide_eq_true_eq] at hc
  rcases h.1 with h1 | h1
  · rw [show (ls s).isEmpty = false from h1] at hc; exact absurd hc.1 (by decide)
  · exact h1 hc.2
theorem out_app (a b c : List UInt8) : bytes (a ++ b) ++ ⟨#[44]⟩ ++ bytes c = bytes (a ++ (b ++ 44 :: c)) := by
  rw [show a ++ (b ++ 44 :: c) = (a ++ b) ++ [44] ++ c by simp, bytes_app _ c, bytes_app _ [44]]; rfl
theorem out_one (a : List UInt8) (row : List ByteArray) {j : Nat} (h : j < row.length) (h0 : j = 0) : bytes (a ++ cellsJ row j) ++ bytes (shCell (ls (row.getD j ByteArray.empty)) (decide (row.length = 1))) = bytes (a ++ cellsJ row (j + 1)) := by
  subst h0
  rw [cells_one row h, show cellsJ row 0 = [] from rfl, List.append_nil, bytes_app]
theorem refWriteS_c (rows : List (List ByteArray)) (hm : mT rows ≤ 100000000) (hl : rows.length ≤ 100000000) : ACall Tryd.prog 12 [.one (.sl (.sl .str) rows)] (is (bytes (shWrite (lst rows)))) := by
  refine acall_of (rs := [2]) Tryd.func12 rfl rfl rfl teOk rfl ?_
  refine acode_seq ?_
  refine acode_region ?_
  refine acode_seq ?_
  refine acode_region ?_
  refine acode_seq ?_
  refine acode_seq ?_
  refine acode_region ?_
  refine acode_block ?_
  refine acode_loopP (fun (i : Nat) => i ≤ rows.length) (fun (i : Nat) => [(0, .one (.sl (.sl .str) rows)), (3, is (bytes (shWrite (lst (rows.take i))))), (4, ii .i64 i)]) (fun (i : Nat) => []) 0 (fun (i : Nat) => rows.length - i) 0 (Nat.zero_le _) (le_of ⟨rfl, rfl, rfl⟩ trivial rfl) ?_
  intro i hI0
  have hi := hI0
  refine acode_seq ?_
  refine acode_seq ?_
  refine acode_region ?_
  intro l3_2
  try simp only [Int.toNat_natCast, dflt_sl, dflt_st, dflt_str, dflt_int, dflt_bool] at l3_2
  refine acode_cond rfl (fun h14 => ?_) (fun h14 => ?_)
  ·try simp only [decide_eq_true_eq] at h14
   try simp only [Int.toNat_natCast, dflt_sl, dflt_st, dflt_str, dflt_int, dflt_bool] at h14
   have hil : i < rows.length := by omega
   have hmr : mR (rows.getD i []) ≤ mT rows := mT_mem (getD_mem hil [])
   refine acode_skip ?_
   refine acode_seq ?_
   refine acode_block ?_
   refine acode_seq ?_
   refine acode_seq ?_
   refine acode_region ?_
   refine acode_block ?_
   refine acode_loopP (fun (j : Nat) => j ≤ (rows.getD i []).length) (fun (j : Nat) => [(0, .one (.sl (.sl .str) rows)), (3, is (bytes (shWrite (lst (rows.take i)) ++ cellsJ (rows.getD i []) j))), (4, ii .i64 i), (5, ii .i64 j)]) (fun (j : Nat) => []) 0 (fun (j : Nat) => (rows.getD i []).length - j) 0 (Nat.zero_le _) (le_of ⟨rfl, (is_eq (by rw [show cellsJ (rows.getD i []) 0 = [] from rfl, List.append_nil])), rfl, rfl⟩ trivial rfl) ?_
   intro j hI2
   have hj := hI2
   have hout := out_len rows i (rows.getD i []) j hm hl hmr
   have hq3 : ByteArray.size ⟨#[10]⟩ = 1 := rfl
   refine acode_seq ?_
   refine acode_seq ?_
   refine acode_region ?_
   refine And.intro (by first | omega | assumption | decide | (simp only [Int.toNat_natCast, dflt_sl, dflt_st, dflt_str, dflt_int, dflt_bool]; omega) | (simp <;> omega)) ?_
   intro l6_5
   try simp only [Int.toNat_natCast, dflt_sl] at l6_5
   refine acode_cond rfl (fun h23 => ?_) (fun h23 => ?_)
   ·try simp only [decide_eq_true_eq] at h23
    try simp only [Int.toNat_natCast, dflt_sl] at h23
    have hjl : j < (rows.getD i []).length := by omega
    have hsz := mR_mem (getD_mem hjl ByteArray.empty)
    refine acode_skip ?_
    refine acode_seq ?_
    refine acode_block ?_
    refine acode_seq ?_
    refine acode_region ?_
    refine And.intro (by first | omega | assumption | decide | (simp only [Int.toNat_natCast, dflt_sl, dflt_st, dflt_str, dflt_int, dflt_bool]; omega) | (simp <;> omega)) ?_
    refine And.intro (by first | omega | assumption | decide | (simp only [Int.toNat_natCast, dflt_sl]; omega) | (simp <;> omega)) ?_
    refine acode_seq ?_
    refine acode_region ?_
    refine acode_seq ?_
    refine acode_region ?_
    refine And.intro (fun h => trivial) ?_
    refine And.intro (fun h => trivial) ?_
    refine And.intro (fun h => ⟨⟨⟨h, trivial⟩, ⟨h, trivial⟩, trivial⟩, by first | omega | decide | (simp only [Int.toNat_natCast, dflt_sl, dflt_st, dflt_str, dflt_int, dflt_bool]; omega) | (have h9 := of_decide_eq_true h; omega) | (simp [gq] at h; omega)⟩) ?_
    refine And.intro (fun h => ⟨⟨h, trivial⟩, trivial⟩) ?_
    refine And.intro (fun h => ⟨⟨h, trivial⟩, trivial⟩) ?_
    refine And.intro (fun h => ⟨⟨h, trivial⟩, trivial⟩) ?_
    refine And.intro (by exact fun h => h) ?_
    refine acode_seq ?_
    refine acode_seq ?_
    refine acode_region ?_
    refine acode_block ?_
    refine acode_loopP (fun (k : Nat) => k ≤ ((rows.getD i []).getD j ByteArray.empty).size) (fun (k : Nat) => [(0, .one (.sl (.sl .str) rows)), (3, is (bytes (shWrite (lst (rows.take i)) ++ cellsJ (rows.getD i []) j))), (4, ii .i64 i), (5, ii .i64 j), (6, is ((rows.getD i []).getD j ByteArray.empty)), (7, is (bytes (dblL ((ls ((rows.getD i []).getD j ByteArray.empty)).take k)))), (8, ib ((((rows.getD i []).getD j ByteArray.empty).data.toList.isEmpty && decide ((rows.getD i []).length = 1)) || ((ls ((rows.getD i []).getD j ByteArray.empty)).take k).any oddC)), (9, ii .i64 k)]) (fun (k : Nat) => []) 0 (fun (k : Nat) => ((rows.getD i []).getD j ByteArray.empty).size - k) 0 (Nat.zero_le _) (le_of ⟨rfl, rfl, rfl, rfl, rfl, (is_eq rfl), (ib_eq (alone_eq _ _)), rfl⟩ trivial rfl) ?_
    intro k hI4
    have hk := hI4
    have hdl := dbl_len ((ls ((rows.getD i []).getD j ByteArray.empty)).take k)
    have hzs : ((rows.getD i []).getD j ByteArray.empty).size = (ls ((rows.getD i []).getD j ByteArray.empty)).length := size_list _
    rw [List.length_take] at hdl
    have hbz : (bytes (dblL ((ls ((rows.getD i []).getD j ByteArray.empty)).take k))).size = (dblL ((ls ((rows.getD i []).getD j ByteArray.empty)).take k)).length := bytes_size _
    have hq1 : ByteArray.size ⟨#[34]⟩ = 1 := rfl
    have hq2 : ByteArray.size ⟨#[44]⟩ = 1 := rfl
    refine acode_seq ?_
    refine acode_seq ?_
    refine acode_region ?_
    refine acode_cond rfl (fun h46 => ?_) (fun h46 => ?_)
    ·try simp only [decide_eq_true_eq] at h46
     try simp only [Int.toNat_natCast, dflt_sl, dflt_st, dflt_str, dflt_int, dflt_bool] at h46
     have hkl : k < (ls ((rows.getD i []).getD j ByteArray.empty)).length := by omega
     have hx : ((rows.getD i []).getD j ByteArray.empty).extract (k : Int).toNat ((k : Int) + 1).toNat = bytes [(ls ((rows.getD i []).getD j ByteArray.empty)).getD k 0] := by rw [Int.toNat_natCast, show ((k : Int) + 1).toNat = k + 1 by omega]; exact extract_one hkl
     have hx1 : (((rows.getD i []).getD j ByteArray.empty).extract (k : Int).toNat ((k : Int) + 1).toNat).size = 1 := by rw [hx]; rfl
     refine acode_skip ?_
     refine acode_seq ?_
     refine acode_block ?_
     refine acode_seq ?_
     refine acode_region ?_
     refine And.intro (by first | omega | assumption | decide | (simp only [Int.toNat_natCast, dflt_sl, dflt_st, dflt_str, dflt_int, dflt_bool]; omega) | (simp <;> omega)) ?_
     refine And.intro (by first | omega | assumption | decide | (simp only [Int.toNat_natCast, dflt_sl, dflt_st, dflt_str, dflt_int, dflt_bool]; omega) | (simp <;> omega)) ?_
     refine acode_seq ?_
     refine acode_region ?_
     refine And.intro (fun h => trivial) ?_
     refine And.intro (fun h => ⟨⟨h, trivial⟩, trivial⟩) ?_
     refine And.intro (by first | (intro h; rw [h]; rfl) | (intro h; cases h)) ?_
     refine And.intro (fun h => trivial) ?_
     refine And.intro (fun h => ⟨⟨h, trivial⟩, trivial⟩) ?_
     refine And.intro (by first | (intro h; rw [h]; rfl) | (intro h; cases h)) ?_
     refine And.intro (fun h => trivial) ?_
     refine And.intro (fun h => ⟨⟨h, trivial⟩, trivial⟩) ?_
     refine And.intro (by first | (intro h; rw [h]; rfl) | (intro h; cases h)) ?_
     refine And.intro (fun h => trivial) ?_
     refine And.intro (fun h => ⟨⟨h, trivial⟩, trivial⟩) ?_
     refine And.intro (by first | (intro h; rw [h]; rfl) | (intro h; cases h)) ?_
     refine acode_seq ?_
     refine acode_region ?_
     refine And.intro (by first | omega | (simp only [ByteArray.size_append]; omega) | (unfold maxLen; (try simp only [ByteArray.size_append]); omega)) ?_
     refine acode_seq ?_
     refine acode_region ?_
     refine acode_cond rfl (fun h75 => ?_) (fun h75 => ?_)
     ·try simp only [decide_eq_true_eq] at h75
      try simp only [Int.toNat_natCast] at h75
      refine acode_region ?_
      refine And.intro (by first | omega | (simp only [ByteArray.size_append]; omega) | (unfold maxLen; (try simp only [ByteArray.size_append]); omega)) ?_
      refine acode_region ?_
      refine And.intro (by first | omega | assumption | decide | (simp only [Int.toNat_natCast, dflt_sl, dflt_st, dflt_str, dflt_int, dflt_bool]; omega) | (simp <;> omega)) ?_
      exact ⟨k + 1, by omega, by first | omega | (simp <;> omega), le_of ⟨rfl, rfl, rfl, rfl, rfl, (is_eq (by rw [← take_snoc 0 hkl]; exact dbl_yes _ hx h75)), (ib_eq (by rw [← take_snoc 0 hkl, hx, List.any_append, ← Bool.or_assoc]; exact odd_dec _ _)), (ii_eq (by omega))⟩ trivial rfl⟩
     ·try simp only [decide_eq_false_iff_not] at h75
      try simp only [Int.toNat_natCast] at h75
      refine acode_skip ?_
      refine acode_region ?_
      refine And.intro (by first | omega | assumption | decide | (simp only [Int.toNat_natCast, dflt_sl, dflt_st, dflt_str, dflt_int, dflt_bool]; omega) | (simp <;> omega)) ?_
      exact ⟨k + 1, by omega, by first | omega | (simp <;> omega), le_of ⟨rfl, rfl, rfl, rfl, rfl, (is_eq (by rw [← take_snoc 0 hkl]; exact dbl_not _ hx h75)), (ib_eq (by rw [← take_snoc 0 hkl, hx, List.any_append, ← Bool.or_assoc]; exact odd_dec _ _)), (ii_eq (by omega))⟩ trivial rfl⟩
    ·try simp only [decide_eq_false_iff_not, Int.not_lt] at h46
     try simp only [Int.toNat_natCast, dflt_sl, dflt_st, dflt_str, dflt_int, dflt_bool] at h46
     have hke : k = ((rows.getD i []).getD j ByteArray.empty).size := by omega
     refine acode_exit ?_
     refine acode_seq ?_
     refine acode_seq ?_
     refine acode_region ?_
     refine acode_cond rfl (fun h79 => ?_) (fun h79 => ?_)
     ·try simp only [decide_eq_true_eq, Bool.and_eq_true, Bool.or_eq_true] at h79
      try simp only [Int.toNat_natCast, dflt_sl, dflt_st, dflt_str, dflt_int, dflt_bool] at h79
      refine acode_region ?_
      refine And.intro (by (have hk0 : ByteArray.size { data := #[34] } = 1 := rfl; first | (unfold maxLen; omega) | (simp only [ByteArray.size_append]; omega) | (unfold maxLen; (try simp only [ByteArray.size_append]); omega))) ?_
      refine And.intro (by (have hk0 : ByteArray.size { data := #[34] } = 1 := rfl; have hk1 : ByteArray.size { data := #[34] } = 1 := rfl; first | (unfold maxLen; omega) | (simp only [ByteArray.size_append]; omega) | (unfold maxLen; (try simp only [ByteArray.size_append]); omega))) ?_
      refine acode_seq ?_
      refine acode_seq ?_
      refine acode_region ?_
      refine acode_cond rfl (fun h84 => ?_) (fun h84 => ?_)
      ·try simp only [decide_eq_true_eq] at h84
       try simp only [Int.toNat_natCast, dflt_sl, dflt_st, dflt_str, dflt_int, dflt_bool] at h84
       refine acode_region ?_
       refine And.intro (by (have hk0 : ByteArray.size { data := #[44] } = 1 := rfl; first | (unfold maxLen; omega) | (simp only [ByteArray.size_append]; omega) | (unfold maxLen; (try simp only [ByteArray.size_append]); omega))) ?_
       refine acode_region ?_
       refine And.intro (by first | omega | (simp only [ByteArray.size_append]; omega) | (unfold maxLen; (try simp only [ByteArray.size_append]); omega)) ?_
       refine acode_region ?_
       refine And.intro (by first | omega | assumption | decide | (simp only [Int.toNat_natCast, dflt_sl, dflt_st, dflt_str, dflt_int, dflt_bool]; omega) | (simp <;> omega)) ?_
       exact ⟨j + 1, by omega, by first | omega | (simp <;> omega), le_of ⟨rfl, (is_eq (by rw [in_yes hke h79, cells_snoc _ hjl (by omega)]; exact out_app _ _ _)), rfl, (ii_eq (by omega))⟩ trivial rfl⟩
      ·try simp only [decide_eq_false_iff_not, Int.not_lt] at h84
       try simp only [Int.toNat_natCast, dflt_sl, dflt_st, dflt_str, dflt_int, dflt_bool] at h84
       refine acode_skip ?_
       refine acode_region ?_
       refine And.intro (by first | omega | (simp only [ByteArray.size_append]; omega) | (unfold maxLen; (try simp only [ByteArray.size_append]); omega)) ?_
       refine acode_region ?_
       refine And.intro (by first | omega | assumption | decide | (simp only [Int.toNat_natCast, dflt_sl, dflt_st, dflt_str, dflt_int, dflt_bool]; omega) | (simp <;> omega)) ?_
       exact ⟨j + 1, by omega, by first | omega | (simp <;> omega), le_of ⟨rfl, (is_eq (by rw [in_yes hke h79]; exact out_one _ _ hjl (by omega))), rfl, (ii_eq (by omega))⟩ trivial rfl⟩
     ·try simp only [decide_eq_false_iff_not, Bool.or_eq_false_iff, Bool.and_eq_false_iff] at h79
      try simp only [Int.toNat_natCast, dflt_sl, dflt_st, dflt_str, dflt_int, dflt_bool] at h79
      refine acode_skip ?_
      refine acode_seq ?_
      refine acode_seq ?_
      refine acode_region ?_
      refine acode_cond rfl (fun h84 => ?_) (fun h84 => ?_)
      ·try simp only [decide_eq_true_eq] at h84
       try simp only [Int.toNat_natCast, dflt_sl, dflt_st, dflt_str, dflt_int, dflt_bool] at h84
       refine acode_region ?_
       refine And.intro (by (have hk0 : ByteArray.size { data := #[44] } = 1 := rfl; first | (unfold maxLen; omega) | (simp only [ByteArray.size_append]; omega) | (unfold maxLen; (try simp only [ByteArray.size_append]); omega))) ?_
       refine acode_region ?_
       refine And.intro (by first | omega | (simp only [ByteArray.size_append]; omega) | (unfold maxLen; (try simp only [ByteArray.size_append]); omega)) ?_
       refine acode_region ?_
       refine And.intro (by first | omega | assumption | decide | (simp only [Int.toNat_natCast, dflt_sl, dflt_st, dflt_str, dflt_int, dflt_bool]; omega) | (simp <;> omega)) ?_
       exact ⟨j + 1, by omega, by first | omega | (simp <;> omega), le_of ⟨rfl, (is_eq (by rw [in_not hke h79, cells_snoc _ hjl (by omega)]; exact out_app _ _ _)), rfl, (ii_eq (by omega))⟩ trivial rfl⟩
      ·try simp only [decide_eq_false_iff_not, Int.not_lt] at h84
       try simp only [Int.toNat_natCast, dflt_sl, dflt_st, dflt_str, dflt_int, dflt_bool] at h84
       refine acode_skip ?_
       refine acode_region ?_
       refine And.intro (by first | omega | (simp only [ByteArray.size_append]; omega) | (unfold maxLen; (try simp only [ByteArray.size_append]); omega)) ?_
       refine acode_region ?_
       refine And.intro (by first | omega | assumption | decide | (simp only [Int.toNat_natCast, dflt_sl, dflt_st, dflt_str, dflt_int, dflt_bool]; omega) | (simp <;> omega)) ?_
       exact ⟨j + 1, by omega, by first | omega | (simp <;> omega), le_of ⟨rfl, (is_eq (by rw [in_not hke h79]; exact out_one _ _ hjl (by omega))), rfl, (ii_eq (by omega))⟩ trivial rfl⟩
   ·try simp only [decide_eq_false_iff_not, Int.not_lt] at h23
    try simp only [Int.toNat_natCast, dflt_sl] at h23
    have hje : j = (rows.getD i []).length := by omega
    refine acode_exit ?_
    refine acode_region ?_
    refine And.intro (by (have hk0 : ByteArray.size { data := #[10] } = 1 := rfl; first | (unfold maxLen; omega) | (simp only [ByteArray.size_append]; omega) | (unfold maxLen; (try simp only [ByteArray.size_append]); omega))) ?_
    refine acode_region ?_
    refine And.intro (by first | omega | assumption | decide | (simp only [Int.toNat_natCast, dflt_sl, dflt_st, dflt_str, dflt_int, dflt_bool]; omega) | (simp <;> omega)) ?_
    exact ⟨i + 1, by omega, by first | omega | (simp <;> omega), le_of ⟨rfl, (is_eq (by rw [shWrite_snoc rows hil, ← cells_all, ← hje, ← List.append_assoc, bytes_app _ [10]]; rfl)), (ii_eq (by omega))⟩ trivial rfl⟩
  ·try simp only [decide_eq_false_iff_not, Int.not_lt] at h14
   try simp only [Int.toNat_natCast, dflt_sl, dflt_st, dflt_str, dflt_int, dflt_bool] at h14
   refine acode_exit ?_
   refine acode_seq ?_
   refine acode_region ?_
   refine acode_ret ?_
   refine is_eq ?_
   rw [List.take_of_length_le (by omega)]
end Q
end Ab
end Go.Proofs.YtehmiepjeffloaaDoor
namespace Go.Proofs.YtehmiepjeffloaaDoor
open Go.RowKit
namespace Ab
set_option maxRecDepth 100000
namespace Q
theorem mach_esc (r : List UInt8) (out : List (List (List UInt8))) (row : List (List UInt8)) (cell : List UInt8) : shMach (34 :: 34 :: r) out row cell true = shMach r out row (cell ++ [34]) true := by
  rw [shMach, if_pos rfl, if_pos ⟨rfl, rfl⟩]
theorem mach_tog (t : List UInt8) (out : List (List (List UInt8))) (row : List (List UInt8)) (cell : List UInt8) (b : Bool) (h : b = false ∨ ∀ r, t ≠ 34 :: r) : shMach (34 :: t) out row cell b = shMach t out row cell (!b) := by
  cases t with
  | nil => simp [shMach]
  | cons d r =>
    rw [shMach, if_pos rfl, if_neg]
    rintro ⟨h1, h2⟩
    rcases h with h | h
    · rw [h] at h1; cases h1
    · exact h r (by rw [h2])
theorem mach_in (x : UInt8) (t : List UInt8) (out : List (List (List UInt8))) (row : List (List UInt8)) (cell : List UInt8) (h : x ≠ 34) : shMach (x :: t) out row cell true = shMach t out row (cell ++ [x]) true := by
  cases t with
  | nil => simp [shMach, h]
  | cons d r => rw [shMach, if_neg h, if_pos rfl]
theorem mach_com (t : List UInt8) (out : List (List (List UInt8))) (row : List (List UInt8)) (cell : List UInt8) : shMach (44 :: t) out row cell false = shMach t out (row ++ [cell]) [] false := by
  cases t with
  | nil => simp [shMach]
  | cons d r => rw [shMach, if_neg (by decide), if_neg (by decide), if_pos rfl]
theorem mach_oth (x : UInt8) (t : List UInt8) (out : List (List (List UInt8))) (row : List (List UInt8)) (cell : List UInt8) (h : x ≠ 34) (h2 : x ≠ 44) (h3 : x ≠ 10) : shMach (x :: t) out row cell false = shMach t out row (cell ++ [x]) false := by
  cases t with
  | nil => simp [shMach, h, h3]
  | cons d r => rw [shMach, if_neg h, if_neg (by decide), if_neg h2, if_neg h3]
def shRefA (o : Option (List (List (List UInt8)))) : A := match o with
  | some rows => .tup [(false, [.sl (.sl .str) (unt rows)]), (false, [.lit (.bool true)])]
  | none => .tup [(false, [.sl (.sl .str) []]), (false, [.lit (.bool false)])]
theorem mL_snoc (r : List (List UInt8)) (c : List UInt8) : mL (r ++ [c]) = mL r + (c.length + 1) := by simp [mL]
theorem tog_cond {l : List UInt8} {i : Nat} {b : Bool} (hi : i < l.length) (h : (b = false ∨ (l.length : Int) ≤ (i : Int) + 1) ∨ ¬ ((l.getD ((i : Int) + 1).toNat 0).toNat : Int) = 34) : b = false ∨ ∀ r, l.drop (i + 1) ≠ 34 :: r := by
  rcases h with (h | h) | h
  · exact .inl h
  · exact .inr fun r e => by rw [List.drop_of_length_le (by omega)] at e; cases e
  · refine .inr fun r e => h ?_
    rw [show ((i : Int) + 1).toNat = i + 1 by omega]
    by_cases hl : i + 1 < l.length
    · rw [drop_cons hl] at e
      injection e with e1 _
      rw [e1]; rfl
    · rw [List.drop_of_length_le (by omega)] at e; cases e
theorem esc_drop {l : List UInt8} {i : Nat} (hi : i + 1 < l.length) (h : ((l.getD ((i : Int) + 1).toNat 0).toNat : Int) = 34) : l.drop (i + 1) = 34 :: l.drop (i + 2) := by
  rw [show ((i : Int) + 1).toNat = i + 1 by omega] at h
  rw [drop_cons hi, show l.getD (i + 1) 0 = 34 from u8_eq h]
theorem refReadS_c (s : ByteArray) (hs : s.size ≤ 60000) : ACall Tryd.prog 18 [is s] (shRefA (shReadR (ls s))) := by
  have hz : s.size = (ls s).length := size_list s
  refine acall_of (rs := [2, 3]) Tryd.func18 rfl rfl rfl teOk rfl ?_
  refine acode_seq ?_
  refine acode_region ?_
  refine acode_seq ?_
  refine acode_region ?_
  refine acode_nilvec 4 24 (.sl .str) rfl ?_
  refine acode_seq ?_
  refine acode_region ?_
  refine acode_nilvec 5 9 .str rfl ?_
  refine acode_seq ?_
  refine acode_region ?_
  refine acode_seq ?_
  refine acode_region ?_
  refine acode_seq ?_
  refine acode_seq ?_
  refine acode_region ?_
  refine acode_block ?_
  refine acode_loopP (fun (x : Nat × List (List (List UInt8)) × List (List UInt8) × List UInt8 × Bool) => x.1 ≤ s.size ∧ mT (unt x.2.1) + mL x.2.2.1 + x.2.2.2.1.length ≤ x.1 ∧ x.2.1.length ≤ x.1 ∧ x.2.2.1.length ≤ x.1 ∧ shMach ((ls s).drop x.1) x.2.1 x.2.2.1 x.2.2.2.1 x.2.2.2.2 = shMach (ls s) [] [] [] false) (fun (x : Nat × List (List (List UInt8)) × List (List UInt8) × List UInt8 × Bool) => [(0, is s), (4, .one (.vec 0)), (5, .one (.vec 1)), (6, is (bytes x.2.2.2.1)), (7, ib x.2.2.2.2), (8, ii .i64 x.1)]) (fun (x : Nat × List (List (List UInt8)) × List (List UInt8) × List UInt8 × Bool) => [(0, .vec 24 (.sl .str) (unt x.2.1)), (1, .vec 9 .str (uns x.2.2.1))]) 2 (fun (x : Nat × List (List (List UInt8)) × List (List UInt8) × List UInt8 × Bool) => s.size - x.1) (0, [], [], [], false) (⟨Nat.zero_le _, Nat.le_refl _, Nat.le_refl _, Nat.le_refl _, rfl⟩) (le_of ⟨rfl, rfl, rfl, rfl, rfl, rfl⟩ ⟨rfl, rfl⟩ rfl) ?_
  intro ⟨i, out, row, cell, b⟩ hI0
  simp only at hI0 ⊢
  obtain ⟨hi, hm, ho, hrl, hq⟩ := hI0
  refine acode_seq ?_
  refine acode_seq ?_
  refine acode_region ?_
  refine acode_cond rfl (fun h13 => ?_) (fun h13 => ?_)
  ·try simp only [decide_eq_true_eq] at h13
   try simp only [Int.toNat_natCast, dflt_sl, dflt_st, dflt_str, dflt_int, dflt_bool] at h13
   have hil : i < (ls s).length := by omega
   obtain ⟨x, hxd⟩ : ∃ x, (ls s).getD i 0 = x := ⟨_, rfl⟩
   have hx : s.extract (i : Int).toNat ((i : Int) + 1).toNat = bytes [x] := by rw [Int.toNat_natCast, show ((i : Int) + 1).toNat = i + 1 by omega, ← hxd]; exact extract_one hil
   have hdr : (ls s).drop i = x :: (ls s).drop (i + 1) := by rw [← hxd]; exact drop_cons hil
   have hcz : (bytes cell).size = cell.length := bytes_size _
   have hx1 : (s.extract (i : Int).toNat ((i : Int) + 1).toNat).size = 1 := by rw [hx]; rfl
   refine acode_skip ?_
   refine acode_seq ?_
   refine acode_block ?_
   refine acode_seq ?_
   refine acode_region ?_
   refine And.intro (by first | omega | assumption | decide | (simp only [Int.toNat_natCast, dflt_sl, dflt_st, dflt_str, dflt_int, dflt_bool]; omega) | (simp <;> omega)) ?_
   refine And.intro (by first | omega | assumption | decide | (simp only [Int.toNat_natCast, dflt_sl, dflt_st, dflt_str, dflt_int, dflt_bool]; omega) | (simp <;> omega)) ?_
   refine acode_block ?_
   refine acode_seq ?_
   refine acode_region ?_
   refine acode_cond rfl (fun h24 => ?_) (fun h24 => ?_)
   ·try simp only [decide_eq_true_eq] at h24
    try simp only [Int.toNat_natCast] at h24
    have hx34 : x = 34 := one_inj (by rw [← hx]; exact h24)
    refine acode_seq ?_
    refine acode_region ?_
    refine And.intro (fun h => trivial) ?_
    refine And.intro (fun h => ⟨⟨⟨h, trivial⟩, trivial⟩, by first | omega | decide | (simp only [Int.toNat_natCast, dflt_sl, dflt_st, dflt_str, dflt_int, dflt_bool]; omega) | (have h9 := of_decide_eq_true h; omega) | (simp [gq] at h; omega)⟩) ?_
    refine And.intro (fun h => trivial) ?_
    refine And.intro (fun h => ⟨⟨h, trivial⟩, trivial⟩) ?_
    refine And.intro (fun h => ⟨⟨h, trivial⟩, ⟨h, trivial⟩, trivial⟩) ?_
    refine And.intro (by exact fun h => h) ?_
    refine And.intro (fun h => trivial) ?_
    refine And.intro (fun h => trivial) ?_
    refine And.intro (fun h => ⟨⟨⟨h, trivial⟩, trivial⟩, by first | omega | decide | (simp only [Int.toNat_natCast, dflt_sl, dflt_st, dflt_str, dflt_int, dflt_bool]; omega) | (have h9 := of_decide_eq_true h; omega) | (simp [gq] at h; omega)⟩) ?_
    refine And.intro (fun h => ⟨⟨⟨h, trivial⟩, ⟨h, trivial⟩, trivial⟩, by first | omega | decide | (simp only [Int.toNat_natCast, dflt_sl, dflt_st, dflt_str, dflt_int, dflt_bool]; omega) | (have h9 := of_decide_eq_true h; omega) | (simp [gq] at h; omega)⟩) ?_
    refine And.intro (fun h => ⟨⟨h, trivial⟩, trivial⟩) ?_
    refine And.intro (by exact fun h => h) ?_
    refine acode_cond rfl (fun h41 => ?_) (fun h41 => ?_)
    ·try simp only [decide_eq_true_eq, Bool.and_eq_true] at h41
     try simp only [Int.toNat_natCast, dflt_sl, dflt_st, dflt_str, dflt_int, dflt_bool] at h41
     refine acode_seq ?_
     refine acode_region ?_
     refine And.intro (by first | omega | (simp only [ByteArray.size_append]; omega) | (unfold maxLen; (try simp only [ByteArray.size_append]); omega)) ?_
     refine acode_region ?_
     refine And.intro (by first | omega | assumption | decide | (simp only [Int.toNat_natCast, dflt_sl, dflt_st, dflt_str, dflt_int, dflt_bool]; omega) | (simp <;> omega)) ?_
     refine acode_region ?_
     refine And.intro (by first | omega | assumption | decide | (simp only [Int.toNat_natCast, dflt_sl, dflt_st, dflt_str, dflt_int, dflt_bool]; omega) | (simp <;> omega)) ?_
     exact ⟨(i + 2, out, row, cell ++ [34], true), ⟨by simp only; omega, by simp only [List.length_append, List.length_singleton]; omega, by simp only; omega, by simp only; omega, by simp only; rw [← hq, hdr, hx34, esc_drop (l := ls s) (by have := h41.1.2; omega) h41.2, h41.1.1, mach_esc]⟩, by first | omega | (simp <;> omega), le_of ⟨rfl, rfl, rfl, (is_eq (by rw [hx, hx34]; exact (bytes_app _ _).symm)), (ib_eq h41.1.1), (ii_eq (by simp only; omega))⟩ ⟨rfl, rfl⟩ rfl⟩
    ·try simp only [decide_eq_false_iff_not, Bool.and_eq_false_iff, Int.not_lt] at h41
     try simp only [Int.toNat_natCast, dflt_sl, dflt_st, dflt_str, dflt_int, dflt_bool] at h41
     refine acode_region ?_
     refine acode_region ?_
     refine And.intro (by first | omega | assumption | decide | (simp only [Int.toNat_natCast, dflt_sl, dflt_st, dflt_str, dflt_int, dflt_bool]; omega) | (simp <;> omega)) ?_
     exact ⟨(i + 1, out, row, cell, !b), ⟨by simp only; omega, by simp only; omega, by simp only; omega, by simp only; omega, by simp only; rw [← hq, hdr, hx34, mach_tog _ _ _ _ _ (tog_cond hil (by rw [← hz]; exact h41))]⟩, by first | omega | (simp <;> omega), le_of ⟨rfl, rfl, rfl, rfl, rfl, (ii_eq (by simp only; omega))⟩ ⟨rfl, rfl⟩ rfl⟩
   ·try simp only [decide_eq_false_iff_not] at h24
    try simp only [Int.toNat_natCast] at h24
    have hx34 : x ≠ 34 := fun e => h24 (by subst e; exact hx)
    refine acode_seq ?_
    refine acode_region ?_
    refine acode_cond rfl (fun h49 => ?_) (fun h49 => ?_)
    ·try simp only [decide_eq_true_eq, decide_eq_false_iff_not, Bool.and_eq_true, Bool.not_eq_true', Bool.not_eq_false', Bool.or_eq_false_iff, Bool.or_eq_true, Bool.and_eq_false_iff, Int.not_lt, Int.not_le] at h49
     try simp only [Int.toNat_natCast, dflt_sl, dflt_st, dflt_str, dflt_int, dflt_bool] at h49
     have hb : b = true := h49
     rw [hb] at hq
     refine acode_region ?_
     refine And.intro (by first | omega | (simp only [ByteArray.size_append]; omega) | (unfold maxLen; (try simp only [ByteArray.size_append]); omega)) ?_
     refine acode_region ?_
     refine And.intro (by first | omega | assumption | decide | (simp only [Int.toNat_natCast, dflt_sl, dflt_st, dflt_str, dflt_int, dflt_bool]; omega) | (simp <;> omega)) ?_
     exact ⟨(i + 1, out, row, cell ++ [x], true), ⟨by simp only; omega, by simp only [List.length_append, List.length_singleton]; omega, by simp only; omega, by simp only; omega, by simp only; rw [← hq, hdr, mach_in _ _ _ _ _ hx34]⟩, by first | omega | (simp <;> omega), le_of ⟨rfl, rfl, rfl, (is_eq (by rw [hx]; exact (bytes_app _ _).symm)), (ib_eq hb), (ii_eq (by simp only; omega))⟩ ⟨rfl, rfl⟩ rfl⟩
    ·try simp only [decide_eq_true_eq, decide_eq_false_iff_not, Bool.and_eq_true, Bool.not_eq_true', Bool.not_eq_false', Bool.or_eq_false_iff, Bool.or_eq_true, Bool.and_eq_false_iff, Int.not_lt, Int.not_le] at h49
     try simp only [Int.toNat_natCast, dflt_sl, dflt_st, dflt_str, dflt_int, dflt_bool] at h49
     have hb : b = false := h49
     rw [hb] at hq
     refine acode_seq ?_
     refine acode_region ?_
     refine acode_cond rfl (fun h54 => ?_) (fun h54 => ?_)
     ·try simp only [decide_eq_true_eq] at h54
      try simp only [Int.toNat_natCast] at h54
      have hx44 : x = 44 := one_inj (by rw [← hx]; exact h54)
      refine acode_seq ?_
      refine acode_region ?_
      refine And.intro (by first | exact app_le (by first | omega | (simp only [List.length_cons, List.length_nil, List.length_map]; omega) | (simp; omega)) (by decide) | omega | assumption | decide | (simp only [Int.toNat_natCast, dflt_sl, dflt_st, dflt_str, dflt_int, dflt_bool]; omega) | (simp <;> omega)) ?_
      refine acode_region ?_
      refine acode_region ?_
      refine And.intro (by first | omega | assumption | decide | (simp only [Int.toNat_natCast, dflt_sl, dflt_st, dflt_str, dflt_int, dflt_bool]; omega) | (simp <;> omega)) ?_
      exact ⟨(i + 1, out, row ++ [cell], [], false), ⟨by simp only; omega, by simp only [mL_snoc, List.length_nil]; omega, by simp only; omega, by simp only [List.length_append, List.length_singleton]; omega, by simp only; rw [← hq, hdr, hx44, mach_com]⟩, by first | omega | (simp <;> omega), le_of ⟨rfl, rfl, rfl, rfl, (ib_eq hb), (ii_eq (by simp only; omega))⟩ ⟨rfl, (vec_eq (by show List.map bytes row ++ [bytes cell] = List.map bytes (row ++ [cell]); rw [List.map_append]; rfl))⟩ rfl⟩
     ·try simp only [decide_eq_false_iff_not] at h54
      try simp only [Int.toNat_natCast] at h54
      have hx44 : x ≠ 44 := fun e => h54 (by subst e; exact hx)
      refine acode_seq ?_
      refine acode_region ?_
      refine acode_cond rfl (fun h61 => ?_) (fun h61 => ?_)
      ·try simp only [decide_eq_true_eq] at h61
       try simp only [Int.toNat_natCast] at h61
       have hx10 : x = 10 := one_inj (by rw [← hx]; exact h61)
       refine acode_seq ?_
       refine acode_region ?_
       refine And.intro (by first | exact app_le (by first | omega | (simp only [List.length_cons, List.length_nil, List.length_map]; omega) | (simp; omega)) (by decide) | omega | assumption | decide | (simp only [Int.toNat_natCast, dflt_sl, dflt_st, dflt_str, dflt_int, dflt_bool]; omega) | (simp <;> omega)) ?_
       refine And.intro (by first | exact app_le (by first | omega | (simp only [List.length_cons, List.length_nil, List.length_map]; omega) | (simp; omega)) (by decide) | omega | assumption | decide | (simp only [Int.toNat_natCast, dflt_sl, dflt_st, dflt_str, dflt_int, dflt_bool]; omega) | (simp <;> omega)) ?_
       refine acode_seq ?_
       refine acode_region ?_
       refine acode_nilvec 5 9 .str rfl ?_
       refine acode_free 1 4 rfl rfl rfl rfl ?_
       refine acode_region ?_
       refine acode_region ?_
       refine And.intro (by first | omega | assumption | decide | (simp only [Int.toNat_natCast, dflt_sl, dflt_st, dflt_str, dflt_int, dflt_bool]; omega) | (simp <;> omega)) ?_
       exact ⟨(i + 1, out ++ [row ++ [cell]], [], [], false), ⟨by simp only; omega, by simp only [mT_snoc, mL_snoc]; show _ + (_ + (_ + 1)) + 0 + 0 ≤ _; omega, by simp only [List.length_append, List.length_singleton]; omega, by simp only [List.length_nil]; omega, by simp only; rw [← hq, hdr, hx10, mach_10]⟩, by first | omega | (simp <;> omega), le_of ⟨rfl, rfl, rfl, rfl, (ib_eq hb), (ii_eq (by simp only; omega))⟩ ⟨(vec_eq (by show List.map uns out ++ [List.map bytes row ++ [bytes cell]] = List.map uns (out ++ [row ++ [cell]]); rw [List.map_append]; show _ = _ ++ [List.map bytes (row ++ [cell])]; rw [List.map_append]; rfl)), rfl⟩ rfl⟩
      ·try simp only [decide_eq_false_iff_not] at h61
       try simp only [Int.toNat_natCast] at h61
       have hx10 : x ≠ 10 := fun e => h61 (by subst e; exact hx)
       refine acode_region ?_
       refine And.intro (by first | omega | (simp only [ByteArray.size_append]; omega) | (unfold maxLen; (try simp only [ByteArray.size_append]); omega)) ?_
       refine acode_region ?_
       refine And.intro (by first | omega | assumption | decide | (simp only [Int.toNat_natCast, dflt_sl, dflt_st, dflt_str, dflt_int, dflt_bool]; omega) | (simp <;> omega)) ?_
       exact ⟨(i + 1, out, row, cell ++ [x], false), ⟨by simp only; omega, by simp only [List.length_append, List.length_singleton]; omega, by simp only; omega, by simp only; omega, by simp only; rw [← hq, hdr, mach_oth _ _ _ _ _ hx34 hx44 hx10]⟩, by first | omega | (simp <;> omega), le_of ⟨rfl, rfl, rfl, (is_eq (by rw [hx]; exact (bytes_app _ _).symm)), (ib_eq hb), (ii_eq (by simp only; omega))⟩ ⟨rfl, rfl⟩ rfl⟩
  ·try simp only [decide_eq_false_iff_not, Int.not_lt] at h13
   try simp only [Int.toNat_natCast, dflt_sl, dflt_st, dflt_str, dflt_int, dflt_bool] at h13
   rw [List.drop_of_length_le (by omega)] at hq
   have hend : shMach (ls s) [] [] [] false = out := by rw [← hq, shMach]
   refine acode_exit ?_
   refine acode_seq ?_
   refine acode_seq ?_
   refine acode_region ?_
   refine Or.inl ?_
   refine And.intro (rfl) ?_
   refine Exists.intro _ (And.intro (refWriteS_c (unt out) (by omega) (by rw [List.length_map]; omega)) ?_)
   refine acode_cond rfl (fun h74 => ?_) (fun h74 => ?_)
   ·try simp only [decide_eq_false_iff_not, Bool.not_eq_true'] at h74
    try simp only [Int.toNat_natCast, dflt_sl, dflt_st, dflt_str, dflt_int, dflt_bool] at h74
    refine acode_seq ?_
    refine acode_region ?_
    refine acode_nilvec 2 24 (.sl .str) rfl ?_
    refine acode_ret ?_
    have e : shReadR (ls s) = none := by (unfold shReadR; rw [hend, if_neg (fun h => h74 (by rw [lst_unt, h, bytes_ls]))])
    rw [e]
    rfl
   ·try simp only [decide_eq_true_eq, Bool.not_eq_false'] at h74
    try simp only [Int.toNat_natCast, dflt_sl, dflt_st, dflt_str, dflt_int, dflt_bool] at h74
    refine acode_skip ?_
    refine acode_seq ?_
    refine acode_region ?_
    refine acode_ret ?_
    have e : shReadR (ls s) = some out := by (unfold shReadR; rw [hend, if_pos (by have h := h74; rw [lst_unt] at h; rw [← h, ls, bytes_list])])
    rw [e]
    rfl
end Q
end Ab
end Go.Proofs.YtehmiepjeffloaaDoor
namespace Go.Proofs.YtehmiepjeffloaaDoor
open Go.RowKit
namespace Ab
set_option maxRecDepth 100000
namespace Q
def refCutL (l : List UInt8) : List UInt8 × List UInt8 × Bool := if 10 ∈ l then ([], [], false) else if ((Lib.cut l [58]).2.2 && keyOk (Lib.cut l [58]).1) = true then Lib.cut l [58] else ([], [], false)
end Q
end Ab
end Go.Proofs.YtehmiepjeffloaaDoor
namespace Go.Proofs.YtehmiepjeffloaaDoor
open Go.RowKit
namespace Ab
set_option maxRecDepth 100000
namespace Q
end Q
end Ab
end Go.Proofs.YtehmiepjeffloaaDoor
namespace Go.Proofs.YtehmiepjeffloaaDoor
open Go.RowKit
namespace Ab
set_option maxRecDepth 100000
namespace Q
def lineB (key v : ByteArray) : List ByteArray := (linesL key.data.toList v.data.toList).map bytes
def linesA (f : Fld) : A := if checkF f = 0 then .tup [(false, [.sl .str (lineB f.1 f.2)]), (false, [.lit .nilIface])] else .tup [(false, [.sl .str []]), (false, [errN (checkF f)])]
end Q
end Ab
end Go.Proofs.YtehmiepjeffloaaDoor
namespace Go.Proofs.YtehmiepjeffloaaDoor
open Go.RowKit
namespace Ab
set_option maxRecDepth 100000
namespace Q
def endL (ls : List (List UInt8)) : List UInt8 := ls.flatMap fun s => s ++ [10]
def textL (f : Fld) : List UInt8 := endL (linesL f.1.data.toList f.2.data.toList)
def foldL (l : List Fld) : List UInt8 := l.flatMap textL
def badF (l : List Fld) : Int := match l with
  | [] => 0
  | f :: r => if checkF f = 0 then badF r else checkF f
def foldA (l : List Fld) : A := if badF l = 0 then .tup [(false, [.lit (.string (bytes (foldL l)))]), (false, [.lit .nilIface])] else .tup [(false, [.lit (.string ⟨#[]⟩)]), (false, [errN (badF l)])]
end Q
end Ab
end Go.Proofs.YtehmiepjeffloaaDoor
namespace Go.Proofs.YtehmiepjeffloaaDoor
open Go.RowKit
namespace Ab
set_option maxRecDepth 100000
namespace Q
end Q
end Ab
end Go.Proofs.YtehmiepjeffloaaDoor
namespace Go.Proofs.YtehmiepjeffloaaDoor
open Go.RowKit
namespace Ab
set_option maxRecDepth 100000
namespace Q
def partB (s : ByteArray) : List ByteArray := (partsL s.data.toList).map bytes
end Q
end Ab
end Go.Proofs.YtehmiepjeffloaaDoor
