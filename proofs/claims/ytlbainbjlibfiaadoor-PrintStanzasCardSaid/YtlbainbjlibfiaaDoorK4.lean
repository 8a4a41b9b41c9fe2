/-
  The texts of this proof, joined: abstract values, the library, the functions of the program and what they compute (part 4). No condition.
-/
import Derived.Test.YtlbainbjlibfiaaDoorRows
import Derived.Lib.Strings
import Derived.Lib.Slices
import Derived.Lib.Walk
import Derived.Lib.Builder
import Derived.Lib.AppendStr
import Derived.Lib.OthersKept
import Derived.WalkKit
import Derived.Laws.Externs
import Derived.Laws.IdiomCopy
import Derived.Lib.UnsafeStr
import Derived.Shelf.RegionOpenPlain
import Derived.Shelf.Strings.Builder1
import Derived.Shelf.Strings.Builder2
import Derived.Shelf.Strings.OnBuilder
import Derived.Shelf.Strings.Trim
import Derived.Shelf.Small.Utf8
import Derived.Shelf.Small.Strs
import Derived.Shelf.Strings.BuilderF
import Derived.Shelf.Strings.BuilderK
import Derived.Shelf.Utf8.RuneCount
import Derived.Shelf.Strings.Builder2Cap
import Derived.Shelf.Strings.Search1
import Derived.Shelf.Strings.Search2
import Derived.Shelf.Strings.Search3
import Derived.Shelf.Strings.Cut
import Derived.Shelf.Strings.Count
import Derived.Shelf.LaysM
import Derived.Shelf.Strings.Shaped
import Derived.Shelf.Strings.Prefix
import Derived.Shelf.Strings.Split
import Derived.Shelf.Strings.SplitShaped
import Derived.Shelf.Unicode.Decode
import Derived.Shelf.Strings.Runes
import Derived.Shelf.Strings.RuneCount
import Derived.Shelf.Strings.AsciiSet
import Derived.Shelf.Strings.Explode
import Derived.Shelf.Unicode.DecodeSlow
import Derived.Shelf.Unicode.DecodeAny
import Derived.Shelf.Unicode.DecodeLast
import Derived.Shelf.Strings.BuilderCap
import Derived.Test.YtlbainbjlibfiaaDoorProg
import Derived.Lib.SplitLaws
import Derived.Shelf.Strings.SlTrimAscii
import Derived.Lib.Join
import Derived.Lib.SlTrimSet
import Derived.Test.YtlbainbjlibfiaaDoorK1
import Derived.Test.YtlbainbjlibfiaaDoorK2
import Derived.Test.YtlbainbjlibfiaaDoorK3
namespace Go.Proofs.YtlbainbjlibfiaaDoor
open Go.RowKit
namespace Ab
def ty9 : TyI := ⟨.str, 1, 16, [.string ⟨#[]⟩], some ⟨_, .str⟩, true⟩
theorem tyOk9 : TyOk Tryd.prog 9 ty9 := tyOk_of (by kernel_rfl) Tryd.underlying9 rfl (by decide) rfl (fun _ _ h => by cases h; rfl) (fun _ => by kernel_rfl)
def ty3 : TyI := ⟨.int .i64, 1, 8, [.int .i64 0], some ⟨_, (.int .i64)⟩, true⟩
theorem tyOk3 : TyOk Tryd.prog 3 ty3 := tyOk_of (by kernel_rfl) Tryd.underlying3 rfl (by decide) rfl (fun _ _ h => by cases h; rfl) (fun _ => by kernel_rfl)
def ty22 : TyI := ⟨.slice 26, 1, 24, [.slice none 0 0], some ⟨_, (.sl (.st (.int .i64) (.st .str (.sl (.st .str .str)))))⟩, false⟩
theorem tyOk22 : TyOk Tryd.prog 22 ty22 := tyOk_of (by kernel_rfl) Tryd.underlying22 rfl (by decide) rfl (fun _ _ h => by cases h; rfl) (fun h => by cases h)
def ty24 : TyI := ⟨.slice 57, 1, 24, [.slice none 0 0], some ⟨_, (.sl (.st .str .str))⟩, false⟩
theorem tyOk24 : TyOk Tryd.prog 24 ty24 := tyOk_of (by kernel_rfl) Tryd.underlying24 rfl (by decide) rfl (fun _ _ h => by cases h; rfl) (fun h => by cases h)
def ty26 : TyI := ⟨.struct [(0, 3), (1, 9), (2, 24)], 3, 48, [.int .i64 0, .string ⟨#[]⟩, .slice none 0 0], some ⟨_, (.st (.int .i64) (.st .str (.sl (.st .str .str))))⟩, false⟩
theorem tyOk26 : TyOk Tryd.prog 26 ty26 := tyOk_of (by kernel_rfl) ⟨by kernel_rfl, by kernel_rfl, by kernel_rfl, by kernel_rfl, by kernel_rfl⟩ rfl (by decide) rfl (fun _ _ h => by cases h; rfl) (fun h => by cases h)
def ty76 : TyI := ⟨.slice 9, 1, 24, [.slice none 0 0], some ⟨_, (.sl .str)⟩, false⟩
theorem tyOk76 : TyOk Tryd.prog 76 ty76 := tyOk_of (by kernel_rfl) Tryd.underlying76 rfl (by decide) rfl (fun _ _ h => by cases h; rfl) (fun h => by cases h)
def ty5 : TyI := ⟨.int .u8, 1, 1, [.int .u8 0], some ⟨_, (.int .u8)⟩, true⟩
theorem tyOk5 : TyOk Tryd.prog 5 ty5 := tyOk_of (by kernel_rfl) Tryd.underlying5 rfl (by decide) rfl (fun _ _ h => by cases h; rfl) (fun _ => by kernel_rfl)
def ty57 : TyI := ⟨.struct [(0, 9), (1, 9)], 2, 32, [.string ⟨#[]⟩, .string ⟨#[]⟩], some ⟨_, (.st .str .str)⟩, true⟩
theorem tyOk57 : TyOk Tryd.prog 57 ty57 := tyOk_of (by kernel_rfl) ⟨by kernel_rfl, by kernel_rfl, by kernel_rfl, by kernel_rfl, by kernel_rfl⟩ rfl (by decide) rfl (fun _ _ h => by cases h; rfl) (fun _ => by kernel_rfl)
def ty21 : TyI := ⟨.int .i32, 1, 4, [.int .i32 0], some ⟨_, (.int .i32)⟩, true⟩
theorem tyOk21 : TyOk Tryd.prog 21 ty21 := tyOk_of (by kernel_rfl) Tryd.underlying21 rfl (by decide) rfl (fun _ _ h => by cases h; rfl) (fun _ => by kernel_rfl)
def ty41 : TyI := ⟨.iface, 1, 16, [.nilIface], some ⟨_, .raw⟩, false⟩
theorem tyOk41 : TyOk Tryd.prog 41 ty41 := tyOk_of (by kernel_rfl) ⟨_, Tryd.underlying41⟩ rfl (by decide) rfl (fun _ _ h => by cases h; rfl) (fun h => by cases h)
def ty4 : TyI := ⟨.bool, 1, 1, [.bool false], some ⟨_, .bool⟩, true⟩
theorem tyOk4 : TyOk Tryd.prog 4 ty4 := tyOk_of (by kernel_rfl) Tryd.underlying4 rfl (by decide) rfl (fun _ _ h => by cases h; rfl) (fun _ => by kernel_rfl)
def ty80 : TyI := ⟨.struct [(0, 78), (3, 22), (4, 76), (5, 24), (6, 3)], 7, 120, [.slice none 0 0, .int .i64 0, .bool false, .slice none 0 0, .slice none 0 0, .slice none 0 0, .int .i64 0], some ⟨_, (.st (.st (.sl .str) (.st (.int .i64) .bool)) (.st (.sl (.st (.int .i64) (.st .str (.sl (.st .str .str))))) (.st (.sl .str) (.st (.sl (.st .str .str)) (.int .i64)))))⟩, false⟩
theorem tyOk80 : TyOk Tryd.prog 80 ty80 := tyOk_of (by kernel_rfl) ⟨by kernel_rfl, by kernel_rfl, by kernel_rfl, by kernel_rfl, by kernel_rfl⟩ rfl (by decide) rfl (fun _ _ h => by cases h; rfl) (fun h => by cases h)
def ty85 : TyI := ⟨.struct [(0, 3), (1, 3), (2, 9), (3, 4)], 4, 40, [.int .i64 0, .int .i64 0, .string ⟨#[]⟩, .bool false], some ⟨_, (.st (.int .i64) (.st (.int .i64) (.st .str .bool)))⟩, true⟩
theorem tyOk85 : TyOk Tryd.prog 85 ty85 := tyOk_of (by kernel_rfl) ⟨by kernel_rfl, by kernel_rfl, by kernel_rfl, by kernel_rfl, by kernel_rfl⟩ rfl (by decide) rfl (fun _ _ h => by cases h; rfl) (fun _ => by kernel_rfl)
def ty63 : TyI := ⟨.struct [(0, 60), (1, 61)], 2, 32, [.pointer none, .slice none 0 0], none, false⟩
theorem tyOk63 : TyOk Tryd.prog 63 ty63 := tyOk_of (by kernel_rfl) ⟨by kernel_rfl, by kernel_rfl, by kernel_rfl, by kernel_rfl, by kernel_rfl⟩ rfl (by decide) rfl (fun _ _ h => by cases h) (fun h => by cases h)
def ty61 : TyI := ⟨.slice 5, 1, 24, [.slice none 0 0], some ⟨_, (.sl (.int .u8))⟩, false⟩
theorem tyOk61 : TyOk Tryd.prog 61 ty61 := tyOk_of (by kernel_rfl) Tryd.underlying61 rfl (by decide) rfl (fun _ _ h => by cases h; rfl) (fun h => by cases h)
def ty37 : TyI := ⟨.slice 24, 1, 24, [.slice none 0 0], some ⟨_, (.sl (.sl (.st .str .str)))⟩, false⟩
theorem tyOk37 : TyOk Tryd.prog 37 ty37 := tyOk_of (by kernel_rfl) Tryd.underlying37 rfl (by decide) rfl (fun _ _ h => by cases h; rfl) (fun h => by cases h)
def ty130 : TyI := ⟨.int .u32, 1, 4, [.int .u32 0], some ⟨_, (.int .u32)⟩, true⟩
theorem tyOk130 : TyOk Tryd.prog 130 ty130 := tyOk_of (by kernel_rfl) Tryd.underlying130 rfl (by decide) rfl (fun _ _ h => by cases h; rfl) (fun _ => by kernel_rfl)
def ty67 : TyI := ⟨.int .i64, 1, 8, [.int .i64 0], some ⟨_, (.int .i64)⟩, true⟩
theorem tyOk67 : TyOk Tryd.prog 67 ty67 := tyOk_of (by kernel_rfl) Tryd.underlying67 rfl (by decide) rfl (fun _ _ h => by cases h; rfl) (fun _ => by kernel_rfl)
def ty75 : TyI := ⟨.ptr 80, 1, 8, [.pointer none], none, false⟩
theorem tyOk75 : TyOk Tryd.prog 75 ty75 := tyOk_of (by kernel_rfl) Tryd.underlying75 rfl (by decide) rfl (fun _ _ h => by cases h) (fun h => by cases h)
def ty78 : TyI := ⟨.struct [(0, 76), (1, 3), (2, 4)], 3, 40, [.slice none 0 0, .int .i64 0, .bool false], some ⟨_, (.st (.sl .str) (.st (.int .i64) .bool))⟩, false⟩
theorem tyOk78 : TyOk Tryd.prog 78 ty78 := tyOk_of (by kernel_rfl) ⟨by kernel_rfl, by kernel_rfl, by kernel_rfl, by kernel_rfl, by kernel_rfl⟩ rfl (by decide) rfl (fun _ _ h => by cases h; rfl) (fun h => by cases h)
def ty60 : TyI := ⟨.ptr 63, 1, 8, [.pointer none], none, false⟩
theorem tyOk60 : TyOk Tryd.prog 60 ty60 := tyOk_of (by kernel_rfl) Tryd.underlying60 rfl (by decide) rfl (fun _ _ h => by cases h) (fun h => by cases h)
def ty136 : TyI := ⟨.struct [(0, 5), (1, 5)], 2, 2, [.int .u8 0, .int .u8 0], some ⟨_, (.st (.int .u8) (.int .u8))⟩, true⟩
theorem tyOk136 : TyOk Tryd.prog 136 ty136 := tyOk_of (by kernel_rfl) ⟨by kernel_rfl, by kernel_rfl, by kernel_rfl, by kernel_rfl, by kernel_rfl⟩ rfl (by decide) rfl (fun _ _ h => by cases h; rfl) (fun _ => by kernel_rfl)
def ty71 : TyI := ⟨.struct [(0, 3), (1, 41)], 2, 24, [.int .i64 0, .nilIface], some ⟨_, (.st (.int .i64) .raw)⟩, false⟩
theorem tyOk71 : TyOk Tryd.prog 71 ty71 := tyOk_of (by kernel_rfl) ⟨by kernel_rfl, by kernel_rfl, by kernel_rfl, by kernel_rfl, by kernel_rfl⟩ rfl (by decide) rfl (fun _ _ h => by cases h; rfl) (fun h => by cases h)
def ty69 : TyI := ⟨.ptr 71, 1, 8, [.pointer none], none, false⟩
theorem tyOk69 : TyOk Tryd.prog 69 ty69 := tyOk_of (by kernel_rfl) Tryd.underlying69 rfl (by decide) rfl (fun _ _ h => by cases h) (fun h => by cases h)
def ty121 : TyI := ⟨.ptr 117, 1, 8, [.pointer none], none, false⟩
theorem tyOk121 : TyOk Tryd.prog 121 ty121 := tyOk_of (by kernel_rfl) Tryd.underlying121 rfl (by decide) rfl (fun _ _ h => by cases h) (fun h => by cases h)
def ty49 : TyI := ⟨.slice 41, 1, 24, [.slice none 0 0], some ⟨_, (.sl .raw)⟩, false⟩
theorem tyOk49 : TyOk Tryd.prog 49 ty49 := tyOk_of (by kernel_rfl) Tryd.underlying49 rfl (by decide) rfl (fun _ _ h => by cases h; rfl) (fun h => by cases h)
def ty90 : TyI := ⟨.ptr 5, 1, 8, [.pointer none], none, false⟩
theorem tyOk90 : TyOk Tryd.prog 90 ty90 := tyOk_of (by kernel_rfl) Tryd.underlying90 rfl (by decide) rfl (fun _ _ h => by cases h) (fun h => by cases h)
def te : List (TypeId × TyI) := [(9, ty9), (3, ty3), (22, ty22), (24, ty24), (26, ty26), (76, ty76), (5, ty5), (57, ty57), (21, ty21), (41, ty41), (4, ty4), (80, ty80), (85, ty85), (63, ty63), (61, ty61), (37, ty37), (130, ty130), (67, ty67), (75, ty75), (78, ty78), (60, ty60), (136, ty136), (71, ty71), (69, ty69), (121, ty121), (49, ty49), (90, ty90)]
theorem teOk : TEok Tryd.prog te := by
  intro p hp
  simp only [te, List.mem_cons, List.not_mem_nil, or_false] at hp
  rcases hp with rfl | rfl | rfl | rfl | rfl | rfl | rfl | rfl | rfl | rfl | rfl | rfl | rfl | rfl | rfl | rfl | rfl | rfl | rfl | rfl | rfl | rfl | rfl | rfl | rfl | rfl | rfl
  · exact tyOk9
  · exact tyOk3
  · exact tyOk22
  · exact tyOk24
  · exact tyOk26
  · exact tyOk76
  · exact tyOk5
  · exact tyOk57
  · exact tyOk21
  · exact tyOk41
  · exact tyOk4
  · exact tyOk80
  · exact tyOk85
  · exact tyOk63
  · exact tyOk61
  · exact tyOk37
  · exact tyOk130
  · exact tyOk67
  · exact tyOk75
  · exact tyOk78
  · exact tyOk60
  · exact tyOk136
  · exact tyOk71
  · exact tyOk69
  · exact tyOk121
  · exact tyOk49
  · exact tyOk90
end Ab
end Go.Proofs.YtlbainbjlibfiaaDoor
namespace Go.Proofs.YtlbainbjlibfiaaDoor
open Go.RowKit
namespace Bld
set_option maxRecDepth 100000
set_option maxHeartbeats 1000000
abbrev IsB (B b : Nat) (bs : List Value) (w : World) : Prop := Lib.IsBuilder 63 5 B b bs w
theorem sizeBuilder : (Tryd.prog.info? 63).map (·.size) = some 2 := by kernel_rfl
theorem liesBuilder : liesAt Tryd.prog Tryd.prog.depth 63 (2 / Tryd.prog.cellsOf 63) 0 63 1 = true := by kernel_rfl
theorem infoByte : (Tryd.prog.info? 5).map (fun i => (i.zero, i.size, i.bytes)) = some (some (.int .u8 0), 1, 1) := by kernel_rfl
theorem copyCheck_used (b : Nat) (w : World) (h0 : w.cell? ⟨b, 0, none⟩ = some (.pointer (some ⟨b, 0, none⟩))) :
    Calls Tryd.prog 46 #[.pointer (some ⟨b, 0, none⟩)] w fun e w' => e = .returned (.tuple #[]) ∧ w' = w := by
  obtain ⟨j, hj, _⟩ := Option.map_eq_some_iff.1 sizeBuilder
  go_enter Tryd.func46, Tryd.ntmps46
  go_wp2
  rw [Lib.run_neq_ptr_same w _ Tryd.underlying60 hj]
  go_wp2
  go_end0
  exact ⟨rfl, rfl⟩
theorem copyCheck_fresh (b : Nat) (w : World) (h0 : w.cell? ⟨b, 0, none⟩ = some (.pointer none)) (hsh : w.shape? b = some (63, 2)) (hfz : w.frozen? ⟨b, 0, none⟩ = false) :
    Calls Tryd.prog 46 #[.pointer (some ⟨b, 0, none⟩)] w fun e w' => e = .returned (.tuple #[]) ∧ w' = w.setCell ⟨b, 0, none⟩ (.pointer (some ⟨b, 0, none⟩)) := by
  obtain ⟨j, hj, hjs⟩ := Option.map_eq_some_iff.1 sizeBuilder
  go_enter Tryd.func46, Tryd.ntmps46
  go_wp2
  rw [Lib.run_to_unsafe w ⟨b, 0, none⟩ Tryd.underlying60 Tryd.underlying103 hj (by rw [hjs]; decide) hsh (Nat.zero_lt_succ 1)]
  simp only [Result.andThen]
  rw [Oper.upon_value]
  go_wp2
  rw [run_callFunc_extern Tryd.func60 (by kernel_rfl) (by kernel_rfl) (by kernel_rfl) (e := Extern.AbiNoEscape.same) (by kernel_rfl)]
  rw [Lib.run_noEscape]
  simp only [Result.andThen]
  rw [Oper.upon_value]
  go_wp2
  rw [Lib.run_from_unsafe w ⟨b, 0, none⟩ Tryd.underlying103 Tryd.underlying60 hj hsh liesBuilder]
  simp only [Result.andThen]
  rw [Oper.upon_value]
  go_wp2
  go_end0
  exact ⟨rfl, rfl⟩
end Bld
end Go.Proofs.YtlbainbjlibfiaaDoor
namespace Go.Proofs.YtlbainbjlibfiaaDoor
open Go.RowKit
namespace Ab
abbrev bldO (u : Bool) (xs : List Int) : Obs := [(0, .box 63 [.nself u 0, .vec 1]), (1, .vec 5 (.int .u8) xs)]
theorem setCell_grew {w : World} {b i : Nat} {v : Value} : Grew w (w.setCell ⟨b, i, none⟩ v) (some b) :=
  ⟨rfl, rfl, rfl, by simp [World.setCell], fun k _ hk => by
    simp only [World.setCell, Array.getElem?_modify]
    rw [if_neg (fun e => hk (by rw [e]))]⟩
theorem setCell_heap {w : World} {b i : Nat} {v : Value} {cs : Array Value} {T : TypeId} {fr : Nat × Nat} (h : w.heap[b]? = some (.cells cs T fr)) : (w.setCell ⟨b, i, none⟩ v).heap[b]? = some (.cells (cs.setIfInBounds i v) T fr) := by
  simp [World.setCell, Array.getElem?_modify, h]
theorem copyCheck_o (u : Bool) (xs : List Int) : ACallO Tryd.prog 46 [.one (.own 0 0)] (bldO u xs) 2 (.tup []) (bldO true xs) 2 := by
  refine ⟨⟨_, Tryd.func46, rfl, rfl⟩, fun cx ρ w vs hN hnx hw hs hvs => ?_⟩
  obtain ⟨b, cs, hρ, hh, hcs⟩ := hs.obs (0, .box 63 [.nself u 0, .vec 1]) (by simp)
  obtain ⟨p, r, rfl, hp, v, r2, rfl, hv, hr⟩ := hcs
  rw [show r2 = [] from hr] at hh
  obtain ⟨q, r3, rfl, ⟨b', hb1, hb2⟩, hr3⟩ := hvs
  rw [hρ] at hb1
  simp only [Option.some.injEq, Value.pointer.injEq, Addr.mk.injEq, and_true] at hb1
  subst hb1
  rw [show r3 = [] from hr3, hb2]
  have hh : w.heap[b]? = some (.cells #[p, v] 63 (0, 0)) := hh
  cases u with
  | true =>
    obtain ⟨b2, hb3, hb4⟩ := hp.1 rfl
    rw [hρ] at hb3
    simp only [Option.some.injEq, Value.pointer.injEq, Addr.mk.injEq, and_true] at hb3
    subst hb3
    refine (Bld.copyCheck_used b w (by simp [World.cell?, hh, hb4])).mono ?_
    rintro e w' ⟨rfl, rfl⟩
    exact ⟨_, ρ, rfl, hs, [], rfl, rfl⟩
  | false =>
    have hp : p = .pointer none := hp.2 rfl
    refine (Bld.copyCheck_fresh b w (by simp [World.cell?, hh, hp]) (by simp [World.shape?, hh]) (Lib.frozen_of_heap hh 0)).mono ?_
    rintro e w' ⟨rfl, rfl⟩
    refine ⟨_, ρ, rfl, ?_, [], rfl, rfl⟩
    have hg : getO (bldO false xs) 0 = some (.box 63 [.nself false 0, .vec 1]) := rfl
    have hk : Keeps (okOf cx ρ (bldO false xs)) (okOf cx ρ (bldO false xs)) w (w.setCell ⟨b, 0, none⟩ (.pointer (some ⟨b, 0, none⟩))) :=
      fun _ k hk hlt => ⟨hk, setCell_grew.block k hlt (fun e => hk.2 _ (mem_getO hg) (by rw [hρ]; exact e.symm))⟩
    have := hs.write (o' := .box 63 [.nself true 0, .vec 1]) hg (w' := w.setCell ⟨b, 0, none⟩ (.pointer (some ⟨b, 0, none⟩))) (by rw [hρ]; exact setCell_grew) (by simp [World.setCell]) ⟨b, [.pointer (some ⟨b, 0, none⟩), v], hρ, setCell_heap hh, _, _, rfl, ⟨fun _ => ⟨b, hρ, rfl⟩, fun e => by (cases e)⟩, _, _, rfl, C.kept (c := .vec 1) hk hv, rfl⟩
    exact this
set_option maxRecDepth 10000
theorem writeString_o (u : Bool) (xs : List Int) (t : ByteArray) (hl : xs.length + t.size ≤ 140737488355328) : ACallO Tryd.prog 35 [.one (.own 0 0), is t] (bldO u xs) 2
    (.tup [(false, [.lit (.int .i64 t.size)]), (false, [.lit .nilIface])]) (bldO true (xs ++ intsOf t)) 2 := by
  refine acallo_of (rs := [4, 5]) Tryd.func35 rfl rfl rfl teOk (by decide) rfl ?_
  refine acode_seq (acode_region ?_)
  refine acode_seq (acode_region ?_)
  refine Or.inr (Or.inl (Exists.intro [] (Exists.intro [0, 1] (Exists.intro _ (Exists.intro _ (Exists.intro _ (Exists.intro _ (Exists.intro _ (And.intro (copyCheck_o u xs) (And.intro rfl (And.intro (And.intro (And.intro rfl rfl) (And.intro (And.intro rfl rfl) True.intro)) (And.intro rfl ?_))))))))))))
  refine acode_seq (acode_region ?_)
  refine And.intro hl ?_
  refine acode_seq (acode_region ?_)
  refine acode_ret ?_
  exact ⟨rfl, ⟨rfl, rfl⟩, rfl⟩
end Ab
end Go.Proofs.YtlbainbjlibfiaaDoor
namespace Go.Proofs.YtlbainbjlibfiaaDoor
open Go.RowKit
namespace Ab
theorem grew_freeze {w w' : World} {g n : Nat} (h : Grew w w' (some g)) : Grew w (w'.freeze ⟨g, 0, none⟩ n) (some g) := by
  unfold World.freeze
  split
  · exact h
  · exact ⟨h.os, h.tape, h.output, by simpa using h.size, fun k hk hg => by
      simp only [Array.getElem?_modify]
      rw [if_neg (fun e => hg (by rw [e]))]
      exact h.block k hk hg⟩
theorem grew_drew {w : World} {r : Option Nat} : Grew w w.drew r := ⟨rfl, rfl, rfl, Nat.le_refl _, fun _ _ _ => rfl⟩
theorem grew_alloc {w : World} {o : Obj} {r : Option Nat} : Grew w (w.drew.alloc o) r := ⟨rfl, rfl, rfl, by simp, fun k hk _ => Lib.alloc_old w.drew _ k hk⟩
set_option maxRecDepth 100000
set_option maxHeartbeats 2000000
theorem string_some (b g cap : Nat) (cur : Array Value) (p : Value) (l : List UInt8) (w : World) (h0 : l ≠ []) (hbk : w.heap[b]? = some (.cells #[p, .slice (some ⟨g, 0, none⟩) l.length cap] 63 (0, 0)))
    (hg : w.heap[g]? = some (.cells cur 5 (0, 0))) (hnc : l.length ≤ cap) (hcm : cap ≤ maxLen) (hcs : cur.size = cap * 1) (hown : w.ownsRow 0 5 1 (.slice (some ⟨g, 0, none⟩) l.length cap) l.length (Lib.byteCells l)) :
    Calls Tryd.prog 36 #[.pointer (some ⟨b, 0, none⟩)] w fun e w' => e = .returned (.string ⟨l.toArray⟩) ∧ Grew w w' (some g) := by
  have hl0 : l.length ≠ 0 := by simpa using h0
  have c1 : w.drew.cell? ⟨b, 1, none⟩ = some (.slice (some ⟨g, 0, none⟩) l.length cap) := by
    have : w.drew.heap[b]? = some (.cells #[p, .slice (some ⟨g, 0, none⟩) l.length cap] 63 (0, 0)) := hbk
    rw [Lib.cell_of_heap this]; rfl
  have hSD : (Builtin.unsafeSliceData_ #[61] 90 #[.slice (some ⟨g, 0, none⟩) l.length cap]).run Tryd.prog w.drew = .ok (.pointer (some ⟨g, 0, none⟩)) w.drew :=
    Lib.run_unsafeSliceData_row _ _ _ _ _ _ (by omega)
  have hUS : (Builtin.unsafeString_ #[90, 3] 9 #[.pointer (some ⟨g, 0, none⟩), .int .i64 l.length]).run Tryd.prog w.drew = .ok (.string ⟨l.toArray⟩) (w.drew.freeze ⟨g, 0, none⟩ l.length) := by
    refine Lib.run_unsafeString_row w.drew 90 3 9 5 Tryd.underlying90 (by kernel_rfl) g cur.size (by have hg' : w.drew.heap[g]? = some (.cells cur 5 (0, 0)) := hg; simp [World.shape?, hg']) l h0 (by omega) (by unfold maxLen at hcm; omega) ?_
    intro j x hx
    have := hown.cells (g := g) rfl j (.int .u8 x.toNat) (by simp [Lib.byteCells, hx])
    exact this
  have mixed : Tryd.prog.follows .mixedOrders = true := by kernel_rfl
  go_enter Tryd.func36, Tryd.ntmps36
  go_wp2
  go_region_o
  all_goals (go_wp2; go_ret; exact ⟨rfl, grew_freeze grew_drew⟩)
theorem string_nil (b : Nat) (p : Value) (w : World) (hbk : w.heap[b]? = some (.cells #[p, .slice none 0 0] 63 (0, 0))) :
    Calls Tryd.prog 36 #[.pointer (some ⟨b, 0, none⟩)] w fun e w' => e = .returned (.string ⟨#[]⟩) ∧ Grew w w' none := by
  have hUS : ∀ (W : World) (q : Option Addr), (Builtin.unsafeString_ #[90, 3] 9 #[.pointer q, .int .i64 0]).run Tryd.prog W = .ok (.string .empty) W := fun W q => Lib.run_unsafeString_none W _ _ _ q
  have c1 : w.drew.cell? ⟨b, 1, none⟩ = some (.slice none 0 0) := by
    have : w.drew.heap[b]? = some (.cells #[p, .slice none 0 0] 63 (0, 0)) := hbk
    rw [Lib.cell_of_heap this]; rfl
  have hSD : (Builtin.unsafeSliceData_ #[61] 90 #[.slice none 0 0]).run Tryd.prog w.drew = .ok (.pointer none) w.drew := rfl
  have mixed : Tryd.prog.follows .mixedOrders = true := by kernel_rfl
  go_enter Tryd.func36, Tryd.ntmps36
  go_wp2
  go_region_o
  all_goals (go_wp2; go_ret; exact ⟨rfl, grew_drew⟩)
theorem string_noroom (b g : Nat) (p : Value) (cur : Array Value) (w : World) (hbk : w.heap[b]? = some (.cells #[p, .slice (some ⟨g, 0, none⟩) 0 0] 63 (0, 0))) (hg : w.heap[g]? = some (.cells cur 5 (0, 0))) :
    Calls Tryd.prog 36 #[.pointer (some ⟨b, 0, none⟩)] w fun e w' => e = .returned (.string ⟨#[]⟩) ∧ Grew w w' (some g) := by
  have hUS : ∀ (W : World) (q : Option Addr), (Builtin.unsafeString_ #[90, 3] 9 #[.pointer q, .int .i64 0]).run Tryd.prog W = .ok (.string .empty) W := fun W q => Lib.run_unsafeString_none W _ _ _ q
  have hlt : b < w.heap.size := (Array.getElem?_eq_some_iff.1 hbk).1
  have c1 : w.drew.cell? ⟨b, 1, none⟩ = some (.slice (some ⟨g, 0, none⟩) 0 0) := by
    have : w.drew.heap[b]? = some (.cells #[p, .slice (some ⟨g, 0, none⟩) 0 0] 63 (0, 0)) := hbk
    rw [Lib.cell_of_heap this]; rfl
  have hSD : (Builtin.unsafeSliceData_ #[61] 90 #[.slice (some ⟨g, 0, none⟩) 0 0]).run Tryd.prog w.drew = .ok (.pointer (some ⟨w.drew.heap.size, 0, none⟩)) (w.drew.alloc (.view ⟨g, 0, none⟩ 5)) :=
    Lib.run_unsafeSliceData_zero w.drew _ _ 5 Tryd.underlying90 ⟨g, 0, none⟩ 0 (5, cur.size) (by have hg' : w.drew.heap[g]? = some (.cells cur 5 (0, 0)) := hg; simp [World.shape?, hg'])
  have c2 : (w.drew.alloc (.view ⟨g, 0, none⟩ 5)).cell? ⟨b, 1, none⟩ = some (.slice (some ⟨g, 0, none⟩) 0 0) := by
    have : (w.drew.alloc (.view ⟨g, 0, none⟩ 5)).heap[b]? = _ := (Lib.alloc_old w.drew _ b hlt).trans hbk
    rw [Lib.cell_of_heap this]; rfl
  have c3 : (w.alloc (.view ⟨g, 0, none⟩ 5)).drew.cell? ⟨b, 1, none⟩ = some (.slice (some ⟨g, 0, none⟩) 0 0) := c2
  have c0 : w.cell? ⟨b, 1, none⟩ = some (.slice (some ⟨g, 0, none⟩) 0 0) := c1
  have mixed : Tryd.prog.follows .mixedOrders = true := by kernel_rfl
  go_enter Tryd.func36, Tryd.ntmps36
  go_wp2
  go_region_o
  all_goals (go_wp2; go_ret; exact ⟨rfl, grew_alloc⟩)
theorem string_room (b g cap : Nat) (p : Value) (w : World) (hc0 : cap ≠ 0) (hbk : w.heap[b]? = some (.cells #[p, .slice (some ⟨g, 0, none⟩) 0 cap] 63 (0, 0))) :
    Calls Tryd.prog 36 #[.pointer (some ⟨b, 0, none⟩)] w fun e w' => e = .returned (.string ⟨#[]⟩) ∧ Grew w w' (some g) := by
  have hUS : ∀ (W : World) (q : Option Addr), (Builtin.unsafeString_ #[90, 3] 9 #[.pointer q, .int .i64 0]).run Tryd.prog W = .ok (.string .empty) W := fun W q => Lib.run_unsafeString_none W _ _ _ q
  have c1 : w.drew.cell? ⟨b, 1, none⟩ = some (.slice (some ⟨g, 0, none⟩) 0 cap) := by
    have : w.drew.heap[b]? = some (.cells #[p, .slice (some ⟨g, 0, none⟩) 0 cap] 63 (0, 0)) := hbk
    rw [Lib.cell_of_heap this]; rfl
  have hSD : (Builtin.unsafeSliceData_ #[61] 90 #[.slice (some ⟨g, 0, none⟩) 0 cap]).run Tryd.prog w.drew = .ok (.pointer (some ⟨g, 0, none⟩)) w.drew :=
    Lib.run_unsafeSliceData_row _ _ _ _ _ _ hc0
  clear hc0
  have mixed : Tryd.prog.follows .mixedOrders = true := by kernel_rfl
  go_enter Tryd.func36, Tryd.ntmps36
  go_wp2
  go_region_o
  all_goals (go_wp2; go_ret; exact ⟨rfl, grew_drew⟩)
end Ab
end Go.Proofs.YtlbainbjlibfiaaDoor
namespace Go.Proofs.YtlbainbjlibfiaaDoor
open Go.RowKit
namespace Ab
theorem string_calls (b : Nat) (p v : Value) (s : ByteArray) (w : World) (hbk : w.heap[b]? = some (.cells #[p, v] 63 (0, 0))) (hown : w.ownsRow 0 5 1 v s.size (Lib.strCells s)) :
    Calls Tryd.prog 36 #[.pointer (some ⟨b, 0, none⟩)] w fun e w' => e = .returned (.string s) ∧ Grew w w' (blk (some v)) := by
  have hs : s = ⟨s.data.toList.toArray⟩ := by cases s; simp
  have hsz : s.size = s.data.toList.length := by cases s; rfl
  rcases hown.2 with ⟨rfl, hz⟩ | ⟨g, cap, cur, rfl, _, hg, hnc, hcm, hcs, htake⟩
  · have hl : s.data.toList = [] := List.eq_nil_of_length_eq_zero (by rw [← hsz]; exact hz)
    rw [hl] at hs
    refine (string_nil b p w hbk).mono ?_
    rintro e w' ⟨rfl, h⟩
    exact ⟨by rw [hs], h⟩
  · by_cases h0 : s.size = 0
    · have hl : s.data.toList = [] := List.eq_nil_of_length_eq_zero (by rw [← hsz]; exact h0)
      rw [hl] at hs
      rw [h0] at hbk
      by_cases hc : cap = 0
      · subst hc
        refine (string_noroom b g p cur w hbk hg).mono ?_
        rintro e w' ⟨rfl, h⟩
        exact ⟨by rw [hs], h⟩
      · refine (string_room b g cap p w hc hbk).mono ?_
        rintro e w' ⟨rfl, h⟩
        exact ⟨by rw [hs], h⟩
    · rw [hsz] at hbk hnc hown
      refine (string_some b g cap cur p s.data.toList w (fun e => h0 (by rw [hsz, e]; rfl)) hbk hg hnc hcm hcs hown).mono ?_
      rintro e w' ⟨rfl, h⟩
      exact ⟨by rw [← hs], h⟩
theorem string_o (u : Bool) (s : ByteArray) : ACallO Tryd.prog 36 [.one (.own 0 0)] (bldO u (intsOf s)) 2 (is s) [] 2 := by
  refine ⟨⟨_, Tryd.func36, rfl, rfl⟩, fun cx ρ w vs hN hnx hw hs hvs => ?_⟩
  obtain ⟨b, cs, hρ, hh, hcs⟩ := hs.obs (0, .box 63 [.nself u 0, .vec 1]) (by simp)
  obtain ⟨p, r, rfl, hp, v, r2, rfl, hv, hr⟩ := hcs
  rw [show r2 = [] from hr] at hh
  obtain ⟨q, r3, rfl, ⟨b', hb1, hb2⟩, hr3⟩ := hvs
  rw [hρ] at hb1
  simp only [Option.some.injEq, Value.pointer.injEq, Addr.mk.injEq, and_true] at hb1
  subst hb1
  rw [show r3 = [] from hr3, hb2]
  have hh : w.heap[b]? = some (.cells #[p, v] 63 (0, 0)) := hh
  obtain ⟨v', hv', css, h1, h2, h3⟩ := hs.obs (1, .vec 5 (.int .u8) (intsOf s)) (by simp)
  have hv1 : ρ 1 = some v := hv.1
  rw [show ρ 1 = some v' from hv'] at hv1
  obtain rfl := Option.some.inj hv1
  have hc : css = (intsOf s).map fun n => [Value.int .u8 n] := by
    apply List.ext_getElem
    · simp [h1]
    · intro i hi hi'
      have hlt : i < (intsOf s).length := by rw [← h1]; exact hi
      have h4 : css.getD i [] = [.int .u8 (intsOf s)[i]] := h2 i hlt
      simp only [List.getD, List.getElem?_eq_getElem hi, Option.getD_some] at h4
      rw [h4, List.getElem_map]
  have hown : w.ownsRow 0 5 1 v' s.size (Lib.strCells s) := by
    rw [← flat_ints, ← hc, ← intsOf_length]
    exact h3
  refine (string_calls b p v' s w hh hown).mono ?_
  rintro e w' ⟨rfl, hg⟩
  refine ⟨_, ρ, rfl, ⟨hs.size, DefOk.none hN.2.2, fun _ => trivial, fun p hp => by (cases hp), List.nodup_nil, fun p hp => by (cases hp), hs.names, hs.nx0, fun p hp => by (cases hp), fun p hp => by (cases hp), ?_, hs.disj, hs.pin, hs.glob, hs.bags⟩, rfl⟩
  refine ⟨by rw [hw]; exact hg.os, by rw [hw]; exact hg.tape, by rw [hw]; exact hg.output, by rw [hw]; exact hg.size, fun k hk hno => ?_, fun k hbg => by rw [hw]; exact .rfl' (hg.block k (by have := (hs.bags k hbg).1; rw [hw] at this; exact this) fun e => hs.bag_own hbg (p := (1, .vec 5 (.int .u8) (intsOf s))) (by simp) (by rw [show ρ 1 = some v' from hv']; exact e.symm))⟩
  rw [hw] at hk ⊢
  refine fun _ => hg.block k hk fun e => ?_
  rcases (hs.low (1, .vec 5 (.int .u8) (intsOf s)) (by simp) k (by rw [show ρ 1 = some v' from hv']; exact e.symm)).2 with h4 | h4
  · rw [hw] at h4; omega
  · exact hno h4
end Ab
end Go.Proofs.YtlbainbjlibfiaaDoor
namespace Go.Proofs
open Go.Shelf
def Tryd.lays169_ren : Go.Shelf.Ren := ⟨fun | 169 => 36 | n => n, fun | 70 => 60 | 9 => 9 | 0 => 0 | 72 => 63 | 37 => 61 | 127 => 90 | 3 => 3 | 5 => 5 | n => n, fun | n => n⟩
theorem Tryd.lays169 : Go.Proofs.Lays.n169 Tryd.prog Tryd.lays169_ren := {
  mixed := by kernel_rfl
  f169 := Tryd.func36.trans (congrArg some (by kernel_rfl))
  t0 := Tryd.underlying0
  a0 := Tryd.isAgg0
  z0 := Tryd.sizeOf0
  v0 := Tryd.zeroValue0
  t3 := Tryd.underlying3
  a3 := Tryd.isAgg3
  z3 := Tryd.sizeOf3
  v3 := Tryd.zeroValue3
  t9 := Tryd.underlying9
  a9 := Tryd.isAgg9
  z9 := Tryd.sizeOf9
  v9 := Tryd.zeroValue9
  t37 := Tryd.underlying61
  a37 := Tryd.isAgg61
  z37 := Tryd.sizeOf61
  v37 := Tryd.zeroValue61
  t70 := Tryd.underlying60
  a70 := Tryd.isAgg60
  z70 := Tryd.sizeOf60
  v70 := Tryd.zeroValue60
  t72 := Tryd.underlying63
  a72 := Tryd.isAgg63
  z72 := Tryd.sizeOf63
  v72 := Tryd.zeroValue63
  t127 := Tryd.underlying90
  a127 := Tryd.isAgg90
  z127 := Tryd.sizeOf90
  v127 := Tryd.zeroValue90 }
theorem Tryd.Builder_Extra_169 : Builder.Extra Tryd.prog Tryd.lays169_ren := {
  sizeBuilder := by kernel_rfl
  liesBuilder := by kernel_rfl
  t5 := Tryd.underlying5
  a5 := Tryd.isAgg5
  z5 := Tryd.sizeOf5
  v5 := Tryd.zeroValue5
  infoByte := by kernel_rfl
  cellsByte := by kernel_rfl
  sizeByte := by kernel_rfl
  neB5 := by decide }
open Go.RowKit in
theorem Tryd.Builder_String (B b : Nat) (l : List UInt8) (w : World) (h : Lib.IsBuilder 63 5 B b (Lib.byteCells l) w) (h0 : l ≠ []) :
    Calls Tryd.prog 36 #[.pointer (some ⟨b, 0, none⟩)] w fun e w' => e = .returned (.string ⟨l.toArray⟩) ∧ Below B w w' := Any.Builder_String Tryd.lays169 Tryd.Builder_Extra_169 B b l w h h0
open Go.RowKit in
theorem Tryd.Builder_String_empty (B b : Nat) (w : World) (h : Lib.IsBuilder 63 5 B b [] w) (hBw : B ≤ w.heap.size) :
    Calls Tryd.prog 36 #[.pointer (some ⟨b, 0, none⟩)] w fun e w' => e = .returned (.string ⟨#[]⟩) ∧ Below B w w' := Any.Builder_String_empty Tryd.lays169 Tryd.Builder_Extra_169 B b w h hBw
open Go.RowKit in
theorem Tryd.Builder_String_any (B b : Nat) (l : List UInt8) (w : World) (h : Lib.IsBuilder 63 5 B b (Lib.byteCells l) w) (hBw : B ≤ w.heap.size) :
    Calls Tryd.prog 36 #[.pointer (some ⟨b, 0, none⟩)] w fun e w' => e = .returned (.string ⟨l.toArray⟩) ∧ Below B w w' := Any.Builder_String_any Tryd.lays169 Tryd.Builder_Extra_169 B b l w h hBw
def Tryd.lays241_ren : Go.Shelf.Ren := ⟨fun | 241 => 70 | 277 => 85 | n => n, fun | 70 => 60 | 3 => 3 | 0 => 0 | 72 => 63 | 37 => 61 | 5 => 5 | n => n, fun | n => n⟩
theorem Tryd.lays241 : Go.Proofs.Lays.n241 Tryd.prog Tryd.lays241_ren := {
  mixed := by kernel_rfl
  f241 := Tryd.func70.trans (congrArg some (by kernel_rfl))
  f277 := Tryd.func85.trans (congrArg some (by kernel_rfl))
  t0 := Tryd.underlying0
  a0 := Tryd.isAgg0
  z0 := Tryd.sizeOf0
  v0 := Tryd.zeroValue0
  t3 := Tryd.underlying3
  a3 := Tryd.isAgg3
  z3 := Tryd.sizeOf3
  v3 := Tryd.zeroValue3
  t37 := Tryd.underlying61
  a37 := Tryd.isAgg61
  z37 := Tryd.sizeOf61
  v37 := Tryd.zeroValue61
  t70 := Tryd.underlying60
  a70 := Tryd.isAgg60
  z70 := Tryd.sizeOf60
  v70 := Tryd.zeroValue60
  t72 := Tryd.underlying63
  a72 := Tryd.isAgg63
  z72 := Tryd.sizeOf63
  v72 := Tryd.zeroValue63 }
theorem Tryd.Builder_Extra_241 : Builder.Extra Tryd.prog Tryd.lays241_ren := {
  sizeBuilder := by kernel_rfl
  liesBuilder := by kernel_rfl
  t5 := Tryd.underlying5
  a5 := Tryd.isAgg5
  z5 := Tryd.sizeOf5
  v5 := Tryd.zeroValue5
  infoByte := by kernel_rfl
  cellsByte := by kernel_rfl
  sizeByte := by kernel_rfl
  neB5 := by decide }
open Go.RowKit in
theorem Tryd.Builder_grow_fresh (B b n : Nat) (w : World) (hB : B ≤ b) (hbk : w.heap[b]? = some (.cells #[.pointer (some ⟨b, 0, none⟩), .slice none 0 0] 63 (0, 0))) (hBw : B ≤ w.heap.size) (hn : n ≤ 281474976710656) :
    Calls Tryd.prog 70 #[.pointer (some ⟨b, 0, none⟩), .int .i64 n] w fun e w' => e = .returned (.tuple #[]) ∧ (Lib.BuilderAt 63 5 B b (.pointer (some ⟨b, 0, none⟩)) [] w' ∧ Below B w w') := Any.Builder_grow_fresh Tryd.lays241 Tryd.Builder_Extra_241 B b n w hB hbk hBw hn
def Tryd.lays165_ren : Go.Shelf.Ren := ⟨fun | 165 => 57 | 240 => 46 | 241 => 70 | 276 => 60 | 277 => 85 | n => n, fun | 70 => 60 | 3 => 3 | 0 => 0 | 4 => 4 | 9 => 9 | 20 => 20 | 72 => 63 | 37 => 61 | 164 => 103 | 5 => 5 | n => n, fun | n => n⟩
theorem Tryd.lays165 : Go.Proofs.Lays.n165 Tryd.prog Tryd.lays165_ren := {
  mixed := by kernel_rfl
  f165 := Tryd.func57.trans (congrArg some (by kernel_rfl))
  f240 := Tryd.func46.trans (congrArg some (by kernel_rfl))
  f241 := Tryd.func70.trans (congrArg some (by kernel_rfl))
  f276 := Tryd.func60.trans (congrArg some (by kernel_rfl))
  f277 := Tryd.func85.trans (congrArg some (by kernel_rfl))
  t0 := Tryd.underlying0
  a0 := Tryd.isAgg0
  z0 := Tryd.sizeOf0
  v0 := Tryd.zeroValue0
  t3 := Tryd.underlying3
  a3 := Tryd.isAgg3
  z3 := Tryd.sizeOf3
  v3 := Tryd.zeroValue3
  t4 := Tryd.underlying4
  a4 := Tryd.isAgg4
  z4 := Tryd.sizeOf4
  v4 := Tryd.zeroValue4
  t9 := Tryd.underlying9
  a9 := Tryd.isAgg9
  z9 := Tryd.sizeOf9
  v9 := Tryd.zeroValue9
  t20 := Tryd.underlying20
  a20 := Tryd.isAgg20
  z20 := Tryd.sizeOf20
  v20 := Tryd.zeroValue20
  t37 := Tryd.underlying61
  a37 := Tryd.isAgg61
  z37 := Tryd.sizeOf61
  v37 := Tryd.zeroValue61
  t70 := Tryd.underlying60
  a70 := Tryd.isAgg60
  z70 := Tryd.sizeOf60
  v70 := Tryd.zeroValue60
  t72 := Tryd.underlying63
  a72 := Tryd.isAgg63
  z72 := Tryd.sizeOf63
  v72 := Tryd.zeroValue63
  t164 := Tryd.underlying103
  a164 := Tryd.isAgg103
  z164 := Tryd.sizeOf103
  v164 := Tryd.zeroValue103 }
theorem Tryd.Builder_Extra_165 : Builder.Extra Tryd.prog Tryd.lays165_ren := {
  sizeBuilder := by kernel_rfl
  liesBuilder := by kernel_rfl
  t5 := Tryd.underlying5
  a5 := Tryd.isAgg5
  z5 := Tryd.sizeOf5
  v5 := Tryd.zeroValue5
  infoByte := by kernel_rfl
  cellsByte := by kernel_rfl
  sizeByte := by kernel_rfl
  neB5 := by decide }
open Go.RowKit in
theorem Tryd.Builder_Grow_fresh (B b n : Nat) (w : World) (hB : B ≤ b) (hbk : w.heap[b]? = some (.cells #[.pointer none, .slice none 0 0] 63 (0, 0))) (hBw : B ≤ w.heap.size) (hn : n ≤ 281474976710656) :
    Calls Tryd.prog 57 #[.pointer (some ⟨b, 0, none⟩), .int .i64 n] w fun e w' => e = .returned (.tuple #[]) ∧ (Lib.BuilderAt 63 5 B b (.pointer (some ⟨b, 0, none⟩)) [] w' ∧ Below B w w') := Any.Builder_Grow_fresh Tryd.lays165 Tryd.Builder_Extra_165 B b n w hB hbk hBw hn
def Tryd.lays156_ren : Go.Shelf.Ren := ⟨fun | 156 => 44 | 165 => 57 | 166 => 35 | 169 => 36 | 240 => 46 | 241 => 70 | 276 => 60 | 277 => 85 | n => n, fun | 31 => 76 | 9 => 9 | 3 => 3 | 4 => 4 | 0 => 0 | 20 => 20 | 72 => 63 | 76 => 64 | 70 => 60 | 37 => 61 | 75 => 41 | 127 => 90 | 164 => 103 | 5 => 5 | 80 => 66 | n => n, fun | n => n⟩
theorem Tryd.lays156 : Go.Proofs.Lays.n156 Tryd.prog Tryd.lays156_ren := {
  mixed := by kernel_rfl
  f156 := Tryd.func44.trans (congrArg some (by kernel_rfl))
  f165 := Tryd.func57.trans (congrArg some (by kernel_rfl))
  f166 := Tryd.func35.trans (congrArg some (by kernel_rfl))
  f169 := Tryd.func36.trans (congrArg some (by kernel_rfl))
  f240 := Tryd.func46.trans (congrArg some (by kernel_rfl))
  f241 := Tryd.func70.trans (congrArg some (by kernel_rfl))
  f276 := Tryd.func60.trans (congrArg some (by kernel_rfl))
  f277 := Tryd.func85.trans (congrArg some (by kernel_rfl))
  t0 := Tryd.underlying0
  a0 := Tryd.isAgg0
  z0 := Tryd.sizeOf0
  v0 := Tryd.zeroValue0
  t3 := Tryd.underlying3
  a3 := Tryd.isAgg3
  z3 := Tryd.sizeOf3
  v3 := Tryd.zeroValue3
  t4 := Tryd.underlying4
  a4 := Tryd.isAgg4
  z4 := Tryd.sizeOf4
  v4 := Tryd.zeroValue4
  t9 := Tryd.underlying9
  a9 := Tryd.isAgg9
  z9 := Tryd.sizeOf9
  v9 := Tryd.zeroValue9
  t20 := Tryd.underlying20
  a20 := Tryd.isAgg20
  z20 := Tryd.sizeOf20
  v20 := Tryd.zeroValue20
  t31 := Tryd.underlying76
  a31 := Tryd.isAgg76
  z31 := Tryd.sizeOf76
  v31 := Tryd.zeroValue76
  t37 := Tryd.underlying61
  a37 := Tryd.isAgg61
  z37 := Tryd.sizeOf61
  v37 := Tryd.zeroValue61
  t70 := Tryd.underlying60
  a70 := Tryd.isAgg60
  z70 := Tryd.sizeOf60
  v70 := Tryd.zeroValue60
  t72 := Tryd.underlying63
  a72 := Tryd.isAgg63
  z72 := Tryd.sizeOf63
  v72 := Tryd.zeroValue63
  t75 := Tryd.underlying41
  a75 := Tryd.isAgg41
  z75 := Tryd.sizeOf41
  v75 := Tryd.zeroValue41
  t76 := Tryd.underlying64
  a76 := Tryd.isAgg64
  z76 := Tryd.sizeOf64
  v76 := Tryd.zeroValue64
  t127 := Tryd.underlying90
  a127 := Tryd.isAgg90
  z127 := Tryd.sizeOf90
  v127 := Tryd.zeroValue90
  t164 := Tryd.underlying103
  a164 := Tryd.isAgg103
  z164 := Tryd.sizeOf103
  v164 := Tryd.zeroValue103 }
theorem Tryd.Builder_Extra_156 : Builder.Extra Tryd.prog Tryd.lays156_ren := {
  sizeBuilder := by kernel_rfl
  liesBuilder := by kernel_rfl
  t5 := Tryd.underlying5
  a5 := Tryd.isAgg5
  z5 := Tryd.sizeOf5
  v5 := Tryd.zeroValue5
  infoByte := by kernel_rfl
  cellsByte := by kernel_rfl
  sizeByte := by kernel_rfl
  neB5 := by decide }
open Go.RowKit in
theorem Tryd.strings_Join_none (a : Option Addr) (c : Nat) (sep : ByteArray) (w : World) :
    Calls Tryd.prog 44 #[.slice a 0 c, .string sep] w fun e w' => e = .returned (.string ⟨#[]⟩) ∧ w' = w := Any.strings_Join_none Tryd.lays156 Tryd.Builder_Extra_156 a c sep w
open Go.RowKit in
theorem Tryd.strings_Join (bk o c : Nat) (xs : List ByteArray) (sep : ByteArray) (w : World) (hcells : ∀ (j : Nat) x, xs[j]? = some x → w.cell? ⟨bk, o + j, none⟩ = some (.string x)) (hbk : bk < w.heap.size) (hN : xs.length ≤ 140737488355328) (hcap : xs.length ≤ c) (hlen : (Lib.join (xs.map (·.data.toList)) sep.data.toList).length ≤ 140737488355328) :
    Calls Tryd.prog 44 #[.slice (some ⟨bk, o, none⟩) xs.length c, .string sep] w fun e w' => e = .returned (.string ⟨(Lib.join (xs.map (·.data.toList)) sep.data.toList).toArray⟩) ∧ Below w.heap.size w w' := Any.strings_Join Tryd.lays156 Tryd.Builder_Extra_156 bk o c xs sep w hcells hbk hN hcap hlen
def Tryd.lays231_ren : Go.Shelf.Ren := ⟨fun | 231 => 76 | n => n, fun | 9 => 9 | 5 => 5 | 3 => 3 | 4 => 4 | n => n, fun | n => n⟩
theorem Tryd.lays231 : Go.Proofs.Lays.n231 Tryd.prog Tryd.lays231_ren := {
  mixed := by kernel_rfl
  f231 := Tryd.func76.trans (congrArg some (by kernel_rfl))
  t3 := Tryd.underlying3
  a3 := Tryd.isAgg3
  z3 := Tryd.sizeOf3
  v3 := Tryd.zeroValue3
  t4 := Tryd.underlying4
  a4 := Tryd.isAgg4
  z4 := Tryd.sizeOf4
  v4 := Tryd.zeroValue4
  t5 := Tryd.underlying5
  a5 := Tryd.isAgg5
  z5 := Tryd.sizeOf5
  v5 := Tryd.zeroValue5
  t9 := Tryd.underlying9
  a9 := Tryd.isAgg9
  z9 := Tryd.sizeOf9
  v9 := Tryd.zeroValue9 }
open Go.RowKit in
theorem Tryd.strings_trimLeftByte (s : ByteArray) (c : UInt8) (w : World) :
    Calls Tryd.prog 76 #[.string s, .int .u8 c.toNat] w fun e w' => e = .returned (.string ⟨(Lib.trimLeftB s.data.toList c).toArray⟩) ∧ w' = w := Any.strings_trimLeftByte Tryd.lays231 s c w
def Tryd.lays232_ren : Go.Shelf.Ren := ⟨fun | 232 => 77 | n => n, fun | 9 => 9 | 5 => 5 | 3 => 3 | 4 => 4 | n => n, fun | n => n⟩
theorem Tryd.lays232 : Go.Proofs.Lays.n232 Tryd.prog Tryd.lays232_ren := {
  mixed := by kernel_rfl
  f232 := Tryd.func77.trans (congrArg some (by kernel_rfl))
  t3 := Tryd.underlying3
  a3 := Tryd.isAgg3
  z3 := Tryd.sizeOf3
  v3 := Tryd.zeroValue3
  t4 := Tryd.underlying4
  a4 := Tryd.isAgg4
  z4 := Tryd.sizeOf4
  v4 := Tryd.zeroValue4
  t5 := Tryd.underlying5
  a5 := Tryd.isAgg5
  z5 := Tryd.sizeOf5
  v5 := Tryd.zeroValue5
  t9 := Tryd.underlying9
  a9 := Tryd.isAgg9
  z9 := Tryd.sizeOf9
  v9 := Tryd.zeroValue9 }
open Go.RowKit in
theorem Tryd.strings_trimRightByte (s : ByteArray) (c : UInt8) (w : World) (hs : s.size ≤ 9223372036854775807) :
    Calls Tryd.prog 77 #[.string s, .int .u8 c.toNat] w fun e w' => e = .returned (.string ⟨(Lib.trimRightB s.data.toList c).toArray⟩) ∧ w' = w := Any.strings_trimRightByte Tryd.lays232 s c w hs
def Tryd.lays160_ren : Go.Shelf.Ren := ⟨fun | 160 => 68 | 232 => 77 | 231 => 76 | 227 => 78 | 234 => 80 | 233 => 79 | 236 => 82 | 235 => 81 | 228 => 92 | 271 => 95 | 151 => 94 | 197 => 93 | 120 => 103 | 152 => 102 | 260 => 101 | 137 => 104 | 119 => 105 | 224 => 90 | 225 => 89 | 217 => 88 | 266 => 99 | n => n, fun | 9 => 9 | 4 => 4 | 3 => 3 | 5 => 5 | 117 => 118 | 116 => 117 | 0 => 0 | 124 => 121 | 21 => 21 | 105 => 127 | 46 => 126 | 119 => 134 | 139 => 137 | 138 => 136 | n => n, fun | 3 => 1 | 4 => 2 | n => n⟩
theorem Tryd.lays160 : Go.Proofs.Lays.n160 Tryd.prog Tryd.lays160_ren := {
  mixed := by kernel_rfl
  f119 := Tryd.func105.trans (congrArg some (by kernel_rfl))
  f120 := Tryd.func103.trans (congrArg some (by kernel_rfl))
  f137 := Tryd.func104.trans (congrArg some (by kernel_rfl))
  f151 := Tryd.func94.trans (congrArg some (by kernel_rfl))
  f152 := Tryd.func102.trans (congrArg some (by kernel_rfl))
  f160 := Tryd.func68.trans (congrArg some (by kernel_rfl))
  f197 := Tryd.func93.trans (congrArg some (by kernel_rfl))
  f217 := Tryd.func88.trans (congrArg some (by kernel_rfl))
  f224 := Tryd.func90.trans (congrArg some (by kernel_rfl))
  f225 := Tryd.func89.trans (congrArg some (by kernel_rfl))
  f227 := Tryd.func78.trans (congrArg some (by kernel_rfl))
  f228 := Tryd.func92.trans (congrArg some (by kernel_rfl))
  f231 := Tryd.func76.trans (congrArg some (by kernel_rfl))
  f232 := Tryd.func77.trans (congrArg some (by kernel_rfl))
  f233 := Tryd.func79.trans (congrArg some (by kernel_rfl))
  f234 := Tryd.func80.trans (congrArg some (by kernel_rfl))
  f235 := Tryd.func81.trans (congrArg some (by kernel_rfl))
  f236 := Tryd.func82.trans (congrArg some (by kernel_rfl))
  f260 := Tryd.func101.trans (congrArg some (by kernel_rfl))
  f266 := Tryd.func99.trans (congrArg some (by kernel_rfl))
  f271 := Tryd.func95.trans (congrArg some (by kernel_rfl))
  t0 := Tryd.underlying0
  a0 := Tryd.isAgg0
  z0 := Tryd.sizeOf0
  v0 := Tryd.zeroValue0
  t3 := Tryd.underlying3
  a3 := Tryd.isAgg3
  z3 := Tryd.sizeOf3
  v3 := Tryd.zeroValue3
  t4 := Tryd.underlying4
  a4 := Tryd.isAgg4
  z4 := Tryd.sizeOf4
  v4 := Tryd.zeroValue4
  t5 := Tryd.underlying5
  a5 := Tryd.isAgg5
  z5 := Tryd.sizeOf5
  v5 := Tryd.zeroValue5
  t9 := Tryd.underlying9
  a9 := Tryd.isAgg9
  z9 := Tryd.sizeOf9
  v9 := Tryd.zeroValue9
  t21 := Tryd.underlying21
  a21 := Tryd.isAgg21
  z21 := Tryd.sizeOf21
  v21 := Tryd.zeroValue21
  t46 := Tryd.underlying126
  a46 := Tryd.isAgg126
  z46 := Tryd.sizeOf126
  v46 := Tryd.zeroValue126
  t105 := Tryd.underlying127
  a105 := Tryd.isAgg127
  z105 := Tryd.sizeOf127
  v105 := Tryd.zeroValue127
  t116 := Tryd.underlying117
  a116 := Tryd.isAgg117
  z116 := Tryd.sizeOf117
  t117 := Tryd.underlying118
  a117 := Tryd.isAgg118
  z117 := Tryd.sizeOf118
  v117 := Tryd.zeroValue118
  t119 := Tryd.underlying134
  a119 := Tryd.isAgg134
  z119 := Tryd.sizeOf134
  t124 := Tryd.underlying121
  a124 := Tryd.isAgg121
  z124 := Tryd.sizeOf121
  v124 := Tryd.zeroValue121
  t138 := Tryd.underlying136
  a138 := Tryd.isAgg136
  z138 := Tryd.sizeOf136
  v138 := Tryd.zeroValue136
  t139 := Tryd.underlying137
  a139 := Tryd.isAgg137
  z139 := Tryd.sizeOf137
  v139 := Tryd.zeroValue137
  g3 := by kernel_rfl
  g4 := by kernel_rfl }
open Go.RowKit in
theorem Tryd.strings_Trim_one (s : ByteArray) (c : UInt8) (hc : c.toNat < 128) (w : World) (hs : s.size ≤ 9223372036854775807) :
    Calls Tryd.prog 68 #[.string s, .string ⟨#[c]⟩] w fun e w' => e = .returned (.string ⟨(Lib.trimB s.data.toList c).toArray⟩) ∧ (w' = w ∨ w' = w.drew) := Any.strings_Trim_one Tryd.lays160 s c hc w hs
def Tryd.lays119_ren : Go.Shelf.Ren := ⟨fun | 119 => 105 | n => n, fun | 21 => 21 | 4 => 4 | n => n, fun | n => n⟩
def Tryd.lays120_ren : Go.Shelf.Ren := ⟨fun | 120 => 103 | n => n, fun | 5 => 5 | 4 => 4 | n => n, fun | n => n⟩
def Tryd.lays137_ren : Go.Shelf.Ren := ⟨fun | 137 => 104 | 217 => 88 | 266 => 99 | n => n, fun | 9 => 9 | 5 => 5 | 3 => 3 | n => n, fun | n => n⟩
theorem Tryd.lays137 : Go.Proofs.Lays.n137 Tryd.prog Tryd.lays137_ren := {
  mixed := by kernel_rfl
  f137 := Tryd.func104.trans (congrArg some (by kernel_rfl))
  f217 := Tryd.func88.trans (congrArg some (by kernel_rfl))
  f266 := Tryd.func99.trans (congrArg some (by kernel_rfl))
  t3 := Tryd.underlying3
  a3 := Tryd.isAgg3
  z3 := Tryd.sizeOf3
  v3 := Tryd.zeroValue3
  t5 := Tryd.underlying5
  a5 := Tryd.isAgg5
  z5 := Tryd.sizeOf5
  v5 := Tryd.zeroValue5
  t9 := Tryd.underlying9
  a9 := Tryd.isAgg9
  z9 := Tryd.sizeOf9
  v9 := Tryd.zeroValue9 }
open Go.RowKit in
theorem Tryd.strings_IndexByte (s : ByteArray) (c : Int) (w : World) :
    Calls Tryd.prog 104 #[.string s, .int .u8 c] w fun e w' => e = .returned (.int .i64 (Lib.indexByte s.data.toList c.toNat.toUInt8)) ∧ w' = w := Any.strings_IndexByte Tryd.lays137 s c w
open Go.RowKit in
theorem Tryd.Builder_String_f (B b : Nat) (l : List UInt8) (w : World) (h : Lib.IsBuilderF 63 5 B b (Lib.byteCells l) w) (h0 : l ≠ []) :
    Calls Tryd.prog 36 #[.pointer (some ⟨b, 0, none⟩)] w fun e w' => e = .returned (.string ⟨l.toArray⟩) ∧ (Lib.IsBuilderF 63 5 B b (Lib.byteCells l) w' ∧ Below B w w') := Any.Builder_String_f Tryd.lays169 Tryd.Builder_Extra_169 B b l w h h0
open Go.RowKit in
theorem Tryd.Builder_String_empty_f (B b : Nat) (w : World) (h : Lib.IsBuilderF 63 5 B b [] w) (hBw : B ≤ w.heap.size) :
    Calls Tryd.prog 36 #[.pointer (some ⟨b, 0, none⟩)] w fun e w' => e = .returned (.string ⟨#[]⟩) ∧ (Lib.IsBuilderF 63 5 B b [] w' ∧ Below B w w') := Any.Builder_String_empty_f Tryd.lays169 Tryd.Builder_Extra_169 B b w h hBw
open Go.RowKit in
theorem Tryd.Builder_String_any_f (B b : Nat) (l : List UInt8) (w : World) (h : Lib.IsBuilderF 63 5 B b (Lib.byteCells l) w) (hBw : B ≤ w.heap.size) :
    Calls Tryd.prog 36 #[.pointer (some ⟨b, 0, none⟩)] w fun e w' => e = .returned (.string ⟨l.toArray⟩) ∧ (Lib.IsBuilderF 63 5 B b (Lib.byteCells l) w' ∧ Below B w w') := Any.Builder_String_any_f Tryd.lays169 Tryd.Builder_Extra_169 B b l w h hBw
open Go.RowKit in
theorem Tryd.Builder_String_k (B b : Nat) (l : List UInt8) (w : World) (h : Lib.IsBuilderF 63 5 B b (Lib.byteCells l) w) (h0 : l ≠ []) :
    Calls Tryd.prog 36 #[.pointer (some ⟨b, 0, none⟩)] w fun e w' => e = .returned (.string ⟨l.toArray⟩) ∧ (Lib.IsBuilderF 63 5 B b (Lib.byteCells l) w' ∧ Below B w w' ∧ Lib.OthersKept 5 (some b) w w') := Any.Builder_String_k Tryd.lays169 Tryd.Builder_Extra_169 B b l w h h0
open Go.RowKit in
theorem Tryd.Builder_String_empty_k (B b : Nat) (w : World) (h : Lib.IsBuilderF 63 5 B b [] w) (hBw : B ≤ w.heap.size) :
    Calls Tryd.prog 36 #[.pointer (some ⟨b, 0, none⟩)] w fun e w' => e = .returned (.string ⟨#[]⟩) ∧ (Lib.IsBuilderF 63 5 B b [] w' ∧ Below B w w' ∧ Lib.OthersKept 5 (some b) w w') := Any.Builder_String_empty_k Tryd.lays169 Tryd.Builder_Extra_169 B b w h hBw
open Go.RowKit in
theorem Tryd.Builder_String_any_k (B b : Nat) (l : List UInt8) (w : World) (h : Lib.IsBuilderF 63 5 B b (Lib.byteCells l) w) (hBw : B ≤ w.heap.size) :
    Calls Tryd.prog 36 #[.pointer (some ⟨b, 0, none⟩)] w fun e w' => e = .returned (.string ⟨l.toArray⟩) ∧ (Lib.IsBuilderF 63 5 B b (Lib.byteCells l) w' ∧ Below B w w' ∧ Lib.OthersKept 5 (some b) w w') := Any.Builder_String_any_k Tryd.lays169 Tryd.Builder_Extra_169 B b l w h hBw
def Tryd.lays195_ren : Go.Shelf.Ren := ⟨fun | 195 => 97 | n => n, fun | 9 => 9 | 3 => 3 | 0 => 0 | 4 => 4 | n => n, fun | n => n⟩
theorem Tryd.lays195 : Go.Proofs.Lays.n195 Tryd.prog Tryd.lays195_ren := {
  mixed := by kernel_rfl
  f195 := Tryd.func97.trans (congrArg some (by kernel_rfl))
  t0 := Tryd.underlying0
  a0 := Tryd.isAgg0
  z0 := Tryd.sizeOf0
  v0 := Tryd.zeroValue0
  t3 := Tryd.underlying3
  a3 := Tryd.isAgg3
  z3 := Tryd.sizeOf3
  v3 := Tryd.zeroValue3
  t4 := Tryd.underlying4
  a4 := Tryd.isAgg4
  z4 := Tryd.sizeOf4
  v4 := Tryd.zeroValue4
  t9 := Tryd.underlying9
  a9 := Tryd.isAgg9
  z9 := Tryd.sizeOf9
  v9 := Tryd.zeroValue9 }
open Go.RowKit in
theorem Tryd.utf8_RuneCountInString (s : ByteArray) (w : World) (hs : s.size < 9223372036854775807) :
    Calls Tryd.prog 97 #[.string s] w fun e w' => e = .returned (.int .i64 (Lib.runeCount s)) ∧ ∃ pos, w' = w.iter s pos := Any.utf8_RuneCountInString Tryd.lays195 s w hs
open Go.RowKit in
theorem Tryd.Builder_grow_fresh_cap (B b n : Nat) (w : World) (hB : B ≤ b) (hbk : w.heap[b]? = some (.cells #[.pointer (some ⟨b, 0, none⟩), .slice none 0 0] 63 (0, 0))) (hBw : B ≤ w.heap.size) (hn : n ≤ 281474976710656) :
    Calls Tryd.prog 70 #[.pointer (some ⟨b, 0, none⟩), .int .i64 n] w fun e w' => e = .returned (.tuple #[]) ∧ (Lib.BuilderAt 63 5 B b (.pointer (some ⟨b, 0, none⟩)) [] w' ∧ Below B w w') ∧ ∃ p cap, w'.cell? ⟨b, 1, none⟩ = some (.slice p 0 cap) ∧ n ≤ cap := Any.Builder_grow_fresh_cap Tryd.lays241 Tryd.Builder_Extra_241 B b n w hB hbk hBw hn
open Go.RowKit in
theorem Tryd.Builder_Grow_fresh_cap (B b n : Nat) (w : World) (hB : B ≤ b) (hbk : w.heap[b]? = some (.cells #[.pointer none, .slice none 0 0] 63 (0, 0))) (hBw : B ≤ w.heap.size) (hn : n ≤ 281474976710656) :
    Calls Tryd.prog 57 #[.pointer (some ⟨b, 0, none⟩), .int .i64 n] w fun e w' => e = .returned (.tuple #[]) ∧ (Lib.BuilderAt 63 5 B b (.pointer (some ⟨b, 0, none⟩)) [] w' ∧ Below B w w') ∧ ∃ p cap, w'.cell? ⟨b, 1, none⟩ = some (.slice p 0 cap) ∧ n ≤ cap := Any.Builder_Grow_fresh_cap Tryd.lays165 Tryd.Builder_Extra_165 B b n w hB hbk hBw hn
def Tryd.lays217_ren : Go.Shelf.Ren := ⟨fun | 217 => 88 | 266 => 99 | n => n, fun | 9 => 9 | 5 => 5 | 3 => 3 | n => n, fun | n => n⟩
theorem Tryd.lays217 : Go.Proofs.Lays.n217 Tryd.prog Tryd.lays217_ren := {
  mixed := by kernel_rfl
  f217 := Tryd.func88.trans (congrArg some (by kernel_rfl))
  f266 := Tryd.func99.trans (congrArg some (by kernel_rfl))
  t3 := Tryd.underlying3
  a3 := Tryd.isAgg3
  z3 := Tryd.sizeOf3
  v3 := Tryd.zeroValue3
  t5 := Tryd.underlying5
  a5 := Tryd.isAgg5
  z5 := Tryd.sizeOf5
  v5 := Tryd.zeroValue5
  t9 := Tryd.underlying9
  a9 := Tryd.isAgg9
  z9 := Tryd.sizeOf9
  v9 := Tryd.zeroValue9 }
open Go.RowKit Go.Lib in
theorem Tryd.stringslite_IndexByte (s : ByteArray) (c : Int) (w : World) :
    Calls Tryd.prog 88 #[.string s, .int .u8 c] w fun e w' => e = .returned (.int .i64 (Lib.indexByte s.data.toList c.toNat.toUInt8)) ∧ w' = w := Any.stringslite_IndexByte Tryd.lays217 s c w
def Tryd.lays224_ren : Go.Shelf.Ren := ⟨fun | 224 => 90 | n => n, fun | 3 => 3 | n => n, fun | n => n⟩
theorem Tryd.lays224 : Go.Proofs.Lays.n224 Tryd.prog Tryd.lays224_ren := {
  mixed := by kernel_rfl
  f224 := Tryd.func90.trans (congrArg some (by kernel_rfl))
  t3 := Tryd.underlying3
  a3 := Tryd.isAgg3
  z3 := Tryd.sizeOf3
  v3 := Tryd.zeroValue3 }
open Go.RowKit Go.Lib in
theorem Tryd.bytealg_Cutover (n : Int) (h0 : 0 ≤ n) (h1 : n < 4611686018427387904) (w : World) :
    Calls Tryd.prog 90 #[.int .i64 n] w fun e w' => e = .returned (.int .i64 ((n + 16) / 8)) ∧ w' = w := Any.bytealg_Cutover Tryd.lays224 n h0 h1 w
def Tryd.lays314_ren : Go.Shelf.Ren := ⟨fun | 314 => 100 | n => n, fun | 9 => 9 | 51 => 130 | 3 => 3 | 4 => 4 | 5 => 5 | 46 => 126 | n => n, fun | n => n⟩
theorem Tryd.lays314 : Go.Proofs.Lays.n314 Tryd.prog Tryd.lays314_ren := {
  mixed := by kernel_rfl
  f314 := Tryd.func100.trans (congrArg some (by kernel_rfl))
  t3 := Tryd.underlying3
  a3 := Tryd.isAgg3
  z3 := Tryd.sizeOf3
  v3 := Tryd.zeroValue3
  t4 := Tryd.underlying4
  a4 := Tryd.isAgg4
  z4 := Tryd.sizeOf4
  v4 := Tryd.zeroValue4
  t5 := Tryd.underlying5
  a5 := Tryd.isAgg5
  z5 := Tryd.sizeOf5
  v5 := Tryd.zeroValue5
  t9 := Tryd.underlying9
  a9 := Tryd.isAgg9
  z9 := Tryd.sizeOf9
  v9 := Tryd.zeroValue9
  t46 := Tryd.underlying126
  a46 := Tryd.isAgg126
  z46 := Tryd.sizeOf126
  v46 := Tryd.zeroValue126
  t51 := Tryd.underlying130
  a51 := Tryd.isAgg130
  z51 := Tryd.sizeOf130
  v51 := Tryd.zeroValue130 }
open Go.RowKit Go.Lib in
theorem Tryd.bytealg_hashStr (sep : ByteArray) (hs : sep.size < 4294967281) (w : World) :
    Calls Tryd.prog 100 #[.string sep] w fun e w' => e = .returned (.tuple #[.int .u32 (RK.H sep.data.toList % 4294967296), .int .u32 (16777619 ^ sep.size % 4294967296)]) ∧ w' = w := Any.bytealg_hashStr Tryd.lays314 sep hs w
def Tryd.lays267_ren : Go.Shelf.Ren := ⟨fun | 267 => 91 | 314 => 100 | n => n, fun | 9 => 9 | 3 => 3 | 146 => 131 | 51 => 130 | 4 => 4 | 5 => 5 | 46 => 126 | n => n, fun | n => n⟩
theorem Tryd.lays267 : Go.Proofs.Lays.n267 Tryd.prog Tryd.lays267_ren := {
  mixed := by kernel_rfl
  f267 := Tryd.func91.trans (congrArg some (by kernel_rfl))
  f314 := Tryd.func100.trans (congrArg some (by kernel_rfl))
  t3 := Tryd.underlying3
  a3 := Tryd.isAgg3
  z3 := Tryd.sizeOf3
  v3 := Tryd.zeroValue3
  t4 := Tryd.underlying4
  a4 := Tryd.isAgg4
  z4 := Tryd.sizeOf4
  v4 := Tryd.zeroValue4
  t5 := Tryd.underlying5
  a5 := Tryd.isAgg5
  z5 := Tryd.sizeOf5
  v5 := Tryd.zeroValue5
  t9 := Tryd.underlying9
  a9 := Tryd.isAgg9
  z9 := Tryd.sizeOf9
  v9 := Tryd.zeroValue9
  t46 := Tryd.underlying126
  a46 := Tryd.isAgg126
  z46 := Tryd.sizeOf126
  v46 := Tryd.zeroValue126
  t51 := Tryd.underlying130
  a51 := Tryd.isAgg130
  z51 := Tryd.sizeOf130
  v51 := Tryd.zeroValue130
  t146 := Tryd.underlying131
  a146 := Tryd.isAgg131
  z146 := Tryd.sizeOf131
  v146 := Tryd.zeroValue131 }
open Go.RowKit Go.Lib in
theorem Tryd.bytealg_IndexRabinKarp (s sep : ByteArray) (h1 : 1 ≤ sep.size) (h2 : sep.size ≤ s.size) (hs : s.size < 4294967281) (w : World) :
    Calls Tryd.prog 91 #[.string s, .string sep] w fun e w' => e = .returned (.int .i64 (Lib.index s.data.toList sep.data.toList)) ∧ w' = w := Any.bytealg_IndexRabinKarp Tryd.lays267 s sep h1 h2 hs w
def Tryd.lays219_ren : Go.Shelf.Ren := ⟨fun | 219 => 75 | 217 => 88 | 225 => 89 | 224 => 90 | 267 => 91 | 266 => 99 | 314 => 100 | n => n, fun | 9 => 9 | 3 => 3 | 4 => 4 | 5 => 5 | 46 => 126 | 146 => 131 | 51 => 130 | n => n, fun | 1 => 0 | n => n⟩
theorem Tryd.lays219 : Go.Proofs.Lays.n219 Tryd.prog Tryd.lays219_ren := {
  mixed := by kernel_rfl
  f217 := Tryd.func88.trans (congrArg some (by kernel_rfl))
  f219 := Tryd.func75.trans (congrArg some (by kernel_rfl))
  f224 := Tryd.func90.trans (congrArg some (by kernel_rfl))
  f225 := Tryd.func89.trans (congrArg some (by kernel_rfl))
  f266 := Tryd.func99.trans (congrArg some (by kernel_rfl))
  f267 := Tryd.func91.trans (congrArg some (by kernel_rfl))
  f314 := Tryd.func100.trans (congrArg some (by kernel_rfl))
  t3 := Tryd.underlying3
  a3 := Tryd.isAgg3
  z3 := Tryd.sizeOf3
  v3 := Tryd.zeroValue3
  t4 := Tryd.underlying4
  a4 := Tryd.isAgg4
  z4 := Tryd.sizeOf4
  v4 := Tryd.zeroValue4
  t5 := Tryd.underlying5
  a5 := Tryd.isAgg5
  z5 := Tryd.sizeOf5
  v5 := Tryd.zeroValue5
  t9 := Tryd.underlying9
  a9 := Tryd.isAgg9
  z9 := Tryd.sizeOf9
  v9 := Tryd.zeroValue9
  t46 := Tryd.underlying126
  a46 := Tryd.isAgg126
  z46 := Tryd.sizeOf126
  v46 := Tryd.zeroValue126
  t51 := Tryd.underlying130
  a51 := Tryd.isAgg130
  z51 := Tryd.sizeOf130
  v51 := Tryd.zeroValue130
  t146 := Tryd.underlying131
  a146 := Tryd.isAgg131
  z146 := Tryd.sizeOf131
  v146 := Tryd.zeroValue131
  g1 := by kernel_rfl }
open Go.RowKit Go.Lib in
theorem Tryd.stringslite_Index_one (s : ByteArray) (c : UInt8) (w : World) :
    Calls Tryd.prog 75 #[.string s, .string ⟨#[c]⟩] w fun e w' => e = .returned (.int .i64 (Lib.indexByte s.data.toList c)) ∧ w' = w := Any.stringslite_Index_one Tryd.lays219 s c w
open Go.RowKit Go.Lib in
theorem Tryd.stringslite_Index (s sub : ByteArray) (m : Int) (w : World) (hs : s.size < 4294967281) (hm : w.cell? ⟨0, 0, none⟩ = some (.int .i64 m)) :
    Calls Tryd.prog 75 #[.string s, .string sub] w fun e w' => e = .returned (.int .i64 (Lib.index s.data.toList sub.data.toList)) ∧ w' = w := Any.stringslite_Index Tryd.lays219 s sub m w hs hm
def Tryd.lays143_ren : Go.Shelf.Ren := ⟨fun | 143 => 74 | 219 => 75 | 217 => 88 | 225 => 89 | 224 => 90 | 267 => 91 | 266 => 99 | 314 => 100 | n => n, fun | 9 => 9 | 3 => 3 | 4 => 4 | 5 => 5 | 46 => 126 | 146 => 131 | 51 => 130 | n => n, fun | 1 => 0 | n => n⟩
theorem Tryd.lays143 : Go.Proofs.Lays.n143 Tryd.prog Tryd.lays143_ren := {
  mixed := by kernel_rfl
  f143 := Tryd.func74.trans (congrArg some (by kernel_rfl))
  f217 := Tryd.func88.trans (congrArg some (by kernel_rfl))
  f219 := Tryd.func75.trans (congrArg some (by kernel_rfl))
  f224 := Tryd.func90.trans (congrArg some (by kernel_rfl))
  f225 := Tryd.func89.trans (congrArg some (by kernel_rfl))
  f266 := Tryd.func99.trans (congrArg some (by kernel_rfl))
  f267 := Tryd.func91.trans (congrArg some (by kernel_rfl))
  f314 := Tryd.func100.trans (congrArg some (by kernel_rfl))
  t3 := Tryd.underlying3
  a3 := Tryd.isAgg3
  z3 := Tryd.sizeOf3
  v3 := Tryd.zeroValue3
  t4 := Tryd.underlying4
  a4 := Tryd.isAgg4
  z4 := Tryd.sizeOf4
  v4 := Tryd.zeroValue4
  t5 := Tryd.underlying5
  a5 := Tryd.isAgg5
  z5 := Tryd.sizeOf5
  v5 := Tryd.zeroValue5
  t9 := Tryd.underlying9
  a9 := Tryd.isAgg9
  z9 := Tryd.sizeOf9
  v9 := Tryd.zeroValue9
  t46 := Tryd.underlying126
  a46 := Tryd.isAgg126
  z46 := Tryd.sizeOf126
  v46 := Tryd.zeroValue126
  t51 := Tryd.underlying130
  a51 := Tryd.isAgg130
  z51 := Tryd.sizeOf130
  v51 := Tryd.zeroValue130
  t146 := Tryd.underlying131
  a146 := Tryd.isAgg131
  z146 := Tryd.sizeOf131
  v146 := Tryd.zeroValue131
  g1 := by kernel_rfl }
open Go.RowKit Go.Lib in
theorem Tryd.strings_Index_one (s : ByteArray) (c : UInt8) (w : World) :
    Calls Tryd.prog 74 #[.string s, .string ⟨#[c]⟩] w fun e w' => e = .returned (.int .i64 (Lib.indexByte s.data.toList c)) ∧ w' = w := Any.strings_Index_one Tryd.lays143 s c w
open Go.RowKit Go.Lib in
theorem Tryd.strings_Index (s sub : ByteArray) (m : Int) (w : World) (hs : s.size < 4294967281) (hm : w.cell? ⟨0, 0, none⟩ = some (.int .i64 m)) :
    Calls Tryd.prog 74 #[.string s, .string sub] w fun e w' => e = .returned (.int .i64 (Lib.index s.data.toList sub.data.toList)) ∧ w' = w := Any.strings_Index Tryd.lays143 s sub m w hs hm
def Tryd.lays144_ren : Go.Shelf.Ren := ⟨fun | 144 => 65 | 143 => 74 | 219 => 75 | 217 => 88 | 225 => 89 | 224 => 90 | 267 => 91 | 266 => 99 | 314 => 100 | n => n, fun | 9 => 9 | 4 => 4 | 3 => 3 | 5 => 5 | 46 => 126 | 146 => 131 | 51 => 130 | n => n, fun | 1 => 0 | n => n⟩
theorem Tryd.lays144 : Go.Proofs.Lays.n144 Tryd.prog Tryd.lays144_ren := {
  mixed := by kernel_rfl
  f143 := Tryd.func74.trans (congrArg some (by kernel_rfl))
  f144 := Tryd.func65.trans (congrArg some (by kernel_rfl))
  f217 := Tryd.func88.trans (congrArg some (by kernel_rfl))
  f219 := Tryd.func75.trans (congrArg some (by kernel_rfl))
  f224 := Tryd.func90.trans (congrArg some (by kernel_rfl))
  f225 := Tryd.func89.trans (congrArg some (by kernel_rfl))
  f266 := Tryd.func99.trans (congrArg some (by kernel_rfl))
  f267 := Tryd.func91.trans (congrArg some (by kernel_rfl))
  f314 := Tryd.func100.trans (congrArg some (by kernel_rfl))
  t3 := Tryd.underlying3
  a3 := Tryd.isAgg3
  z3 := Tryd.sizeOf3
  v3 := Tryd.zeroValue3
  t4 := Tryd.underlying4
  a4 := Tryd.isAgg4
  z4 := Tryd.sizeOf4
  v4 := Tryd.zeroValue4
  t5 := Tryd.underlying5
  a5 := Tryd.isAgg5
  z5 := Tryd.sizeOf5
  v5 := Tryd.zeroValue5
  t9 := Tryd.underlying9
  a9 := Tryd.isAgg9
  z9 := Tryd.sizeOf9
  v9 := Tryd.zeroValue9
  t46 := Tryd.underlying126
  a46 := Tryd.isAgg126
  z46 := Tryd.sizeOf126
  v46 := Tryd.zeroValue126
  t51 := Tryd.underlying130
  a51 := Tryd.isAgg130
  z51 := Tryd.sizeOf130
  v51 := Tryd.zeroValue130
  t146 := Tryd.underlying131
  a146 := Tryd.isAgg131
  z146 := Tryd.sizeOf131
  v146 := Tryd.zeroValue131
  g1 := by kernel_rfl }
open Go.RowKit Go.Lib in
theorem Tryd.strings_Contains_one (s : ByteArray) (c : UInt8) (w : World) :
    Calls Tryd.prog 65 #[.string s, .string ⟨#[c]⟩] w fun e w' => e = .returned (.bool (decide (0 ≤ Lib.indexByte s.data.toList c))) ∧ w' = w := Any.strings_Contains_one Tryd.lays144 s c w
open Go.RowKit Go.Lib in
theorem Tryd.strings_Contains (s sub : ByteArray) (m : Int) (w : World) (hs : s.size < 4294967281) (hm : w.cell? ⟨0, 0, none⟩ = some (.int .i64 m)) :
    Calls Tryd.prog 65 #[.string s, .string sub] w fun e w' => e = .returned (.bool (Lib.contains s.data.toList sub.data.toList)) ∧ w' = w := Any.strings_Contains Tryd.lays144 s sub m w hs hm
def Tryd.lays220_ren : Go.Shelf.Ren := ⟨fun | 220 => 67 | 219 => 75 | 217 => 88 | 225 => 89 | 224 => 90 | 267 => 91 | 266 => 99 | 314 => 100 | n => n, fun | 9 => 9 | 4 => 4 | 3 => 3 | 5 => 5 | 46 => 126 | 146 => 131 | 51 => 130 | n => n, fun | 1 => 0 | n => n⟩
theorem Tryd.lays220 : Go.Proofs.Lays.n220 Tryd.prog Tryd.lays220_ren := {
  mixed := by kernel_rfl
  f217 := Tryd.func88.trans (congrArg some (by kernel_rfl))
  f219 := Tryd.func75.trans (congrArg some (by kernel_rfl))
  f220 := Tryd.func67.trans (congrArg some (by kernel_rfl))
  f224 := Tryd.func90.trans (congrArg some (by kernel_rfl))
  f225 := Tryd.func89.trans (congrArg some (by kernel_rfl))
  f266 := Tryd.func99.trans (congrArg some (by kernel_rfl))
  f267 := Tryd.func91.trans (congrArg some (by kernel_rfl))
  f314 := Tryd.func100.trans (congrArg some (by kernel_rfl))
  t3 := Tryd.underlying3
  a3 := Tryd.isAgg3
  z3 := Tryd.sizeOf3
  v3 := Tryd.zeroValue3
  t4 := Tryd.underlying4
  a4 := Tryd.isAgg4
  z4 := Tryd.sizeOf4
  v4 := Tryd.zeroValue4
  t5 := Tryd.underlying5
  a5 := Tryd.isAgg5
  z5 := Tryd.sizeOf5
  v5 := Tryd.zeroValue5
  t9 := Tryd.underlying9
  a9 := Tryd.isAgg9
  z9 := Tryd.sizeOf9
  v9 := Tryd.zeroValue9
  t46 := Tryd.underlying126
  a46 := Tryd.isAgg126
  z46 := Tryd.sizeOf126
  v46 := Tryd.zeroValue126
  t51 := Tryd.underlying130
  a51 := Tryd.isAgg130
  z51 := Tryd.sizeOf130
  v51 := Tryd.zeroValue130
  t146 := Tryd.underlying131
  a146 := Tryd.isAgg131
  z146 := Tryd.sizeOf131
  v146 := Tryd.zeroValue131
  g1 := by kernel_rfl }
open Go.RowKit Go.Lib in
theorem Tryd.stringslite_Cut (s sep : ByteArray) (m : Int) (w : World) (hs : s.size < 4294967281) (hm : w.cell? ⟨0, 0, none⟩ = some (.int .i64 m)) :
    Calls Tryd.prog 67 #[.string s, .string sep] w fun e w' => e = .returned (.tuple #[.string ⟨(Lib.cut s.data.toList sep.data.toList).1.toArray⟩, .string ⟨(Lib.cut s.data.toList sep.data.toList).2.1.toArray⟩, .bool (Lib.cut s.data.toList sep.data.toList).2.2]) ∧ ∃ n, w' = w.drewN n := Any.stringslite_Cut Tryd.lays220 s sep m w hs hm
def Tryd.lays145_ren : Go.Shelf.Ren := ⟨fun | 145 => 51 | 220 => 67 | 219 => 75 | 217 => 88 | 225 => 89 | 224 => 90 | 267 => 91 | 266 => 99 | 314 => 100 | n => n, fun | 9 => 9 | 4 => 4 | 59 => 95 | 3 => 3 | 5 => 5 | 46 => 126 | 146 => 131 | 51 => 130 | n => n, fun | 1 => 0 | n => n⟩
theorem Tryd.lays145 : Go.Proofs.Lays.n145 Tryd.prog Tryd.lays145_ren := {
  mixed := by kernel_rfl
  f145 := Tryd.func51.trans (congrArg some (by kernel_rfl))
  f217 := Tryd.func88.trans (congrArg some (by kernel_rfl))
  f219 := Tryd.func75.trans (congrArg some (by kernel_rfl))
  f220 := Tryd.func67.trans (congrArg some (by kernel_rfl))
  f224 := Tryd.func90.trans (congrArg some (by kernel_rfl))
  f225 := Tryd.func89.trans (congrArg some (by kernel_rfl))
  f266 := Tryd.func99.trans (congrArg some (by kernel_rfl))
  f267 := Tryd.func91.trans (congrArg some (by kernel_rfl))
  f314 := Tryd.func100.trans (congrArg some (by kernel_rfl))
  t3 := Tryd.underlying3
  a3 := Tryd.isAgg3
  z3 := Tryd.sizeOf3
  v3 := Tryd.zeroValue3
  t4 := Tryd.underlying4
  a4 := Tryd.isAgg4
  z4 := Tryd.sizeOf4
  v4 := Tryd.zeroValue4
  t5 := Tryd.underlying5
  a5 := Tryd.isAgg5
  z5 := Tryd.sizeOf5
  v5 := Tryd.zeroValue5
  t9 := Tryd.underlying9
  a9 := Tryd.isAgg9
  z9 := Tryd.sizeOf9
  v9 := Tryd.zeroValue9
  t46 := Tryd.underlying126
  a46 := Tryd.isAgg126
  z46 := Tryd.sizeOf126
  v46 := Tryd.zeroValue126
  t51 := Tryd.underlying130
  a51 := Tryd.isAgg130
  z51 := Tryd.sizeOf130
  v51 := Tryd.zeroValue130
  t59 := Tryd.underlying95
  a59 := Tryd.isAgg95
  z59 := Tryd.sizeOf95
  v59 := Tryd.zeroValue95
  t146 := Tryd.underlying131
  a146 := Tryd.isAgg131
  z146 := Tryd.sizeOf131
  v146 := Tryd.zeroValue131
  g1 := by kernel_rfl }
open Go.RowKit Go.Lib in
theorem Tryd.strings_Cut (s sep : ByteArray) (m : Int) (w : World) (hs : s.size < 4294967281) (hm : w.cell? ⟨0, 0, none⟩ = some (.int .i64 m)) :
    Calls Tryd.prog 51 #[.string s, .string sep] w fun e w' => e = .returned (.tuple #[.string ⟨(Lib.cut s.data.toList sep.data.toList).1.toArray⟩, .string ⟨(Lib.cut s.data.toList sep.data.toList).2.1.toArray⟩, .bool (Lib.cut s.data.toList sep.data.toList).2.2]) ∧ ∃ n, w' = w.drewN n := Any.strings_Cut Tryd.lays145 s sep m w hs hm
def Tryd.lays138_ren : Go.Shelf.Ren := ⟨fun | 138 => 87 | 195 => 97 | 218 => 98 | 143 => 74 | 219 => 75 | 217 => 88 | 225 => 89 | 224 => 90 | 267 => 91 | 266 => 99 | 314 => 100 | n => n, fun | 9 => 9 | 3 => 3 | 4 => 4 | 5 => 5 | 0 => 0 | 46 => 126 | 146 => 131 | 51 => 130 | n => n, fun | 1 => 0 | n => n⟩
theorem Tryd.lays138 : Go.Proofs.Lays.n138 Tryd.prog Tryd.lays138_ren := {
  mixed := by kernel_rfl
  f138 := Tryd.func87.trans (congrArg some (by kernel_rfl))
  f143 := Tryd.func74.trans (congrArg some (by kernel_rfl))
  f195 := Tryd.func97.trans (congrArg some (by kernel_rfl))
  f217 := Tryd.func88.trans (congrArg some (by kernel_rfl))
  f218 := Tryd.func98.trans (congrArg some (by kernel_rfl))
  f219 := Tryd.func75.trans (congrArg some (by kernel_rfl))
  f224 := Tryd.func90.trans (congrArg some (by kernel_rfl))
  f225 := Tryd.func89.trans (congrArg some (by kernel_rfl))
  f266 := Tryd.func99.trans (congrArg some (by kernel_rfl))
  f267 := Tryd.func91.trans (congrArg some (by kernel_rfl))
  f314 := Tryd.func100.trans (congrArg some (by kernel_rfl))
  t0 := Tryd.underlying0
  a0 := Tryd.isAgg0
  z0 := Tryd.sizeOf0
  v0 := Tryd.zeroValue0
  t3 := Tryd.underlying3
  a3 := Tryd.isAgg3
  z3 := Tryd.sizeOf3
  v3 := Tryd.zeroValue3
  t4 := Tryd.underlying4
  a4 := Tryd.isAgg4
  z4 := Tryd.sizeOf4
  v4 := Tryd.zeroValue4
  t5 := Tryd.underlying5
  a5 := Tryd.isAgg5
  z5 := Tryd.sizeOf5
  v5 := Tryd.zeroValue5
  t9 := Tryd.underlying9
  a9 := Tryd.isAgg9
  z9 := Tryd.sizeOf9
  v9 := Tryd.zeroValue9
  t46 := Tryd.underlying126
  a46 := Tryd.isAgg126
  z46 := Tryd.sizeOf126
  v46 := Tryd.zeroValue126
  t51 := Tryd.underlying130
  a51 := Tryd.isAgg130
  z51 := Tryd.sizeOf130
  v51 := Tryd.zeroValue130
  t146 := Tryd.underlying131
  a146 := Tryd.isAgg131
  z146 := Tryd.sizeOf131
  v146 := Tryd.zeroValue131
  g1 := by kernel_rfl }
open Go.RowKit Go.Lib in
theorem Tryd.strings_Count_one (s : ByteArray) (c : UInt8) (w : World) :
    Calls Tryd.prog 87 #[.string s, .string ⟨#[c]⟩] w fun e w' => e = .returned (.int .i64 (Lib.countByte s.data.toList c)) ∧ w' = w := Any.strings_Count_one Tryd.lays138 s c w
open Go.RowKit Go.Lib in
theorem Tryd.strings_Count (s sub : ByteArray) (m : Int) (w : World) (hs : s.size < 4294967281) (hm : w.cell? ⟨0, 0, none⟩ = some (.int .i64 m)) (h2 : 2 ≤ sub.size) :
    Calls Tryd.prog 87 #[.string s, .string sub] w fun e w' => e = .returned (.int .i64 (Lib.countB s sub)) ∧ w' = w := Any.strings_Count Tryd.lays138 s sub m w hs hm h2
def Tryd.laysM219_ren : Go.Shelf.Ren := ⟨fun | 219 => 75 | 217 => 88 | 225 => 89 | 224 => 90 | 267 => 91 | 266 => 99 | 314 => 100 | n => n, fun | 9 => 9 | 3 => 3 | 4 => 4 | 5 => 5 | 46 => 126 | 146 => 131 | 51 => 130 | n => n, fun | 1 => 0 | n => n⟩
theorem Tryd.laysM219 : Go.Proofs.LaysM.n219 Tryd.prog Tryd.laysM219_ren := {
  mixed := by kernel_rfl
  f217 := Tryd.func88.trans (congrArg some (by kernel_rfl))
  f219 := Tryd.func75.trans (congrArg some (by kernel_rfl))
  f224 := Tryd.func90.trans (congrArg some (by kernel_rfl))
  f225 := Tryd.func89.trans (congrArg some (by kernel_rfl))
  f266 := Tryd.func99.trans (congrArg some (by kernel_rfl))
  f267 := Tryd.func91.trans (congrArg some (by kernel_rfl))
  f314 := Tryd.func100.trans (congrArg some (by kernel_rfl))
  t3 := Tryd.underlying3
  a3 := Tryd.isAgg3
  z3 := Tryd.sizeOf3
  v3 := Tryd.zeroValue3
  t4 := Tryd.underlying4
  a4 := Tryd.isAgg4
  z4 := Tryd.sizeOf4
  v4 := Tryd.zeroValue4
  t5 := Tryd.underlying5
  a5 := Tryd.isAgg5
  z5 := Tryd.sizeOf5
  v5 := Tryd.zeroValue5
  t9 := Tryd.underlying9
  a9 := Tryd.isAgg9
  z9 := Tryd.sizeOf9
  v9 := Tryd.zeroValue9
  t46 := Tryd.underlying126
  a46 := Tryd.isAgg126
  z46 := Tryd.sizeOf126
  v46 := Tryd.zeroValue126
  t51 := Tryd.underlying130
  a51 := Tryd.isAgg130
  z51 := Tryd.sizeOf130
  v51 := Tryd.zeroValue130
  t146 := Tryd.underlying131
  a146 := Tryd.isAgg131
  z146 := Tryd.sizeOf131
  v146 := Tryd.zeroValue131
  g1 := by kernel_rfl
  i3 := by kernel_rfl
  i4 := by kernel_rfl
  i5 := by kernel_rfl
  i9 := by kernel_rfl
  i46 := by kernel_rfl
  i51 := by kernel_rfl
  i146 := by kernel_rfl
  m1 := by kernel_rfl
  s1_3 := fun w h => Go.Proofs.cell_of_shapedOpen_int (zero := #[.int .i64 0]) (t := 3) h (of_decide_eq_true (by kernel_rfl)) (by kernel_rfl) rfl (by kernel_rfl) (by kernel_rfl) Tryd.underlying3 }
open Go.RowKit Go.Lib in
theorem Tryd.stringslite_Index_shaped (s sub : ByteArray) (w : World) (h : w.ShapedOpen Tryd.prog) (hs : s.size < 4294967281) :
    Calls Tryd.prog 75 #[.string s, .string sub] w fun e w' => e = .returned (.int .i64 (Lib.index s.data.toList sub.data.toList)) ∧ w' = w := Any.stringslite_Index_shaped Tryd.laysM219 s sub w h hs
def Tryd.laysM143_ren : Go.Shelf.Ren := ⟨fun | 143 => 74 | 219 => 75 | 217 => 88 | 225 => 89 | 224 => 90 | 267 => 91 | 266 => 99 | 314 => 100 | n => n, fun | 9 => 9 | 3 => 3 | 4 => 4 | 5 => 5 | 46 => 126 | 146 => 131 | 51 => 130 | n => n, fun | 1 => 0 | n => n⟩
theorem Tryd.laysM143 : Go.Proofs.LaysM.n143 Tryd.prog Tryd.laysM143_ren := {
  mixed := by kernel_rfl
  f143 := Tryd.func74.trans (congrArg some (by kernel_rfl))
  f217 := Tryd.func88.trans (congrArg some (by kernel_rfl))
  f219 := Tryd.func75.trans (congrArg some (by kernel_rfl))
  f224 := Tryd.func90.trans (congrArg some (by kernel_rfl))
  f225 := Tryd.func89.trans (congrArg some (by kernel_rfl))
  f266 := Tryd.func99.trans (congrArg some (by kernel_rfl))
  f267 := Tryd.func91.trans (congrArg some (by kernel_rfl))
  f314 := Tryd.func100.trans (congrArg some (by kernel_rfl))
  t3 := Tryd.underlying3
  a3 := Tryd.isAgg3
  z3 := Tryd.sizeOf3
  v3 := Tryd.zeroValue3
  t4 := Tryd.underlying4
  a4 := Tryd.isAgg4
  z4 := Tryd.sizeOf4
  v4 := Tryd.zeroValue4
  t5 := Tryd.underlying5
  a5 := Tryd.isAgg5
  z5 := Tryd.sizeOf5
  v5 := Tryd.zeroValue5
  t9 := Tryd.underlying9
  a9 := Tryd.isAgg9
  z9 := Tryd.sizeOf9
  v9 := Tryd.zeroValue9
  t46 := Tryd.underlying126
  a46 := Tryd.isAgg126
  z46 := Tryd.sizeOf126
  v46 := Tryd.zeroValue126
  t51 := Tryd.underlying130
  a51 := Tryd.isAgg130
  z51 := Tryd.sizeOf130
  v51 := Tryd.zeroValue130
  t146 := Tryd.underlying131
  a146 := Tryd.isAgg131
  z146 := Tryd.sizeOf131
  v146 := Tryd.zeroValue131
  g1 := by kernel_rfl
  i3 := by kernel_rfl
  i4 := by kernel_rfl
  i5 := by kernel_rfl
  i9 := by kernel_rfl
  i46 := by kernel_rfl
  i51 := by kernel_rfl
  i146 := by kernel_rfl
  m1 := by kernel_rfl
  s1_3 := fun w h => Go.Proofs.cell_of_shapedOpen_int (zero := #[.int .i64 0]) (t := 3) h (of_decide_eq_true (by kernel_rfl)) (by kernel_rfl) rfl (by kernel_rfl) (by kernel_rfl) Tryd.underlying3 }
open Go.RowKit Go.Lib in
theorem Tryd.strings_Index_shaped (s sub : ByteArray) (w : World) (h : w.ShapedOpen Tryd.prog) (hs : s.size < 4294967281) :
    Calls Tryd.prog 74 #[.string s, .string sub] w fun e w' => e = .returned (.int .i64 (Lib.index s.data.toList sub.data.toList)) ∧ w' = w := Any.strings_Index_shaped Tryd.laysM143 s sub w h hs
def Tryd.laysM144_ren : Go.Shelf.Ren := ⟨fun | 144 => 65 | 143 => 74 | 219 => 75 | 217 => 88 | 225 => 89 | 224 => 90 | 267 => 91 | 266 => 99 | 314 => 100 | n => n, fun | 9 => 9 | 4 => 4 | 3 => 3 | 5 => 5 | 46 => 126 | 146 => 131 | 51 => 130 | n => n, fun | 1 => 0 | n => n⟩
theorem Tryd.laysM144 : Go.Proofs.LaysM.n144 Tryd.prog Tryd.laysM144_ren := {
  mixed := by kernel_rfl
  f143 := Tryd.func74.trans (congrArg some (by kernel_rfl))
  f144 := Tryd.func65.trans (congrArg some (by kernel_rfl))
  f217 := Tryd.func88.trans (congrArg some (by kernel_rfl))
  f219 := Tryd.func75.trans (congrArg some (by kernel_rfl))
  f224 := Tryd.func90.trans (congrArg some (by kernel_rfl))
  f225 := Tryd.func89.trans (congrArg some (by kernel_rfl))
  f266 := Tryd.func99.trans (congrArg some (by kernel_rfl))
  f267 := Tryd.func91.trans (congrArg some (by kernel_rfl))
  f314 := Tryd.func100.trans (congrArg some (by kernel_rfl))
  t3 := Tryd.underlying3
  a3 := Tryd.isAgg3
  z3 := Tryd.sizeOf3
  v3 := Tryd.zeroValue3
  t4 := Tryd.underlying4
  a4 := Tryd.isAgg4
  z4 := Tryd.sizeOf4
  v4 := Tryd.zeroValue4
  t5 := Tryd.underlying5
  a5 := Tryd.isAgg5
  z5 := Tryd.sizeOf5
  v5 := Tryd.zeroValue5
  t9 := Tryd.underlying9
  a9 := Tryd.isAgg9
  z9 := Tryd.sizeOf9
  v9 := Tryd.zeroValue9
  t46 := Tryd.underlying126
  a46 := Tryd.isAgg126
  z46 := Tryd.sizeOf126
  v46 := Tryd.zeroValue126
  t51 := Tryd.underlying130
  a51 := Tryd.isAgg130
  z51 := Tryd.sizeOf130
  v51 := Tryd.zeroValue130
  t146 := Tryd.underlying131
  a146 := Tryd.isAgg131
  z146 := Tryd.sizeOf131
  v146 := Tryd.zeroValue131
  g1 := by kernel_rfl
  i3 := by kernel_rfl
  i4 := by kernel_rfl
  i5 := by kernel_rfl
  i9 := by kernel_rfl
  i46 := by kernel_rfl
  i51 := by kernel_rfl
  i146 := by kernel_rfl
  m1 := by kernel_rfl
  s1_3 := fun w h => Go.Proofs.cell_of_shapedOpen_int (zero := #[.int .i64 0]) (t := 3) h (of_decide_eq_true (by kernel_rfl)) (by kernel_rfl) rfl (by kernel_rfl) (by kernel_rfl) Tryd.underlying3 }
open Go.RowKit Go.Lib in
theorem Tryd.strings_Contains_shaped (s sub : ByteArray) (w : World) (h : w.ShapedOpen Tryd.prog) (hs : s.size < 4294967281) :
    Calls Tryd.prog 65 #[.string s, .string sub] w fun e w' => e = .returned (.bool (Lib.contains s.data.toList sub.data.toList)) ∧ w' = w := Any.strings_Contains_shaped Tryd.laysM144 s sub w h hs
def Tryd.laysM220_ren : Go.Shelf.Ren := ⟨fun | 220 => 67 | 219 => 75 | 217 => 88 | 225 => 89 | 224 => 90 | 267 => 91 | 266 => 99 | 314 => 100 | n => n, fun | 9 => 9 | 4 => 4 | 3 => 3 | 5 => 5 | 46 => 126 | 146 => 131 | 51 => 130 | n => n, fun | 1 => 0 | n => n⟩
theorem Tryd.laysM220 : Go.Proofs.LaysM.n220 Tryd.prog Tryd.laysM220_ren := {
  mixed := by kernel_rfl
  f217 := Tryd.func88.trans (congrArg some (by kernel_rfl))
  f219 := Tryd.func75.trans (congrArg some (by kernel_rfl))
  f220 := Tryd.func67.trans (congrArg some (by kernel_rfl))
  f224 := Tryd.func90.trans (congrArg some (by kernel_rfl))
  f225 := Tryd.func89.trans (congrArg some (by kernel_rfl))
  f266 := Tryd.func99.trans (congrArg some (by kernel_rfl))
  f267 := Tryd.func91.trans (congrArg some (by kernel_rfl))
  f314 := Tryd.func100.trans (congrArg some (by kernel_rfl))
  t3 := Tryd.underlying3
  a3 := Tryd.isAgg3
  z3 := Tryd.sizeOf3
  v3 := Tryd.zeroValue3
  t4 := Tryd.underlying4
  a4 := Tryd.isAgg4
  z4 := Tryd.sizeOf4
  v4 := Tryd.zeroValue4
  t5 := Tryd.underlying5
  a5 := Tryd.isAgg5
  z5 := Tryd.sizeOf5
  v5 := Tryd.zeroValue5
  t9 := Tryd.underlying9
  a9 := Tryd.isAgg9
  z9 := Tryd.sizeOf9
  v9 := Tryd.zeroValue9
  t46 := Tryd.underlying126
  a46 := Tryd.isAgg126
  z46 := Tryd.sizeOf126
  v46 := Tryd.zeroValue126
  t51 := Tryd.underlying130
  a51 := Tryd.isAgg130
  z51 := Tryd.sizeOf130
  v51 := Tryd.zeroValue130
  t146 := Tryd.underlying131
  a146 := Tryd.isAgg131
  z146 := Tryd.sizeOf131
  v146 := Tryd.zeroValue131
  g1 := by kernel_rfl
  i3 := by kernel_rfl
  i4 := by kernel_rfl
  i5 := by kernel_rfl
  i9 := by kernel_rfl
  i46 := by kernel_rfl
  i51 := by kernel_rfl
  i146 := by kernel_rfl
  m1 := by kernel_rfl
  s1_3 := fun w h => Go.Proofs.cell_of_shapedOpen_int (zero := #[.int .i64 0]) (t := 3) h (of_decide_eq_true (by kernel_rfl)) (by kernel_rfl) rfl (by kernel_rfl) (by kernel_rfl) Tryd.underlying3 }
open Go.RowKit Go.Lib in
theorem Tryd.stringslite_Cut_shaped (s sep : ByteArray) (w : World) (h : w.ShapedOpen Tryd.prog) (hs : s.size < 4294967281) :
    Calls Tryd.prog 67 #[.string s, .string sep] w fun e w' => e = .returned (.tuple #[.string ⟨(Lib.cut s.data.toList sep.data.toList).1.toArray⟩, .string ⟨(Lib.cut s.data.toList sep.data.toList).2.1.toArray⟩, .bool (Lib.cut s.data.toList sep.data.toList).2.2]) ∧ ∃ n, w' = w.drewN n := Any.stringslite_Cut_shaped Tryd.laysM220 s sep w h hs
def Tryd.laysM145_ren : Go.Shelf.Ren := ⟨fun | 145 => 51 | 220 => 67 | 219 => 75 | 217 => 88 | 225 => 89 | 224 => 90 | 267 => 91 | 266 => 99 | 314 => 100 | n => n, fun | 9 => 9 | 4 => 4 | 59 => 95 | 3 => 3 | 5 => 5 | 46 => 126 | 146 => 131 | 51 => 130 | n => n, fun | 1 => 0 | n => n⟩
theorem Tryd.laysM145 : Go.Proofs.LaysM.n145 Tryd.prog Tryd.laysM145_ren := {
  mixed := by kernel_rfl
  f145 := Tryd.func51.trans (congrArg some (by kernel_rfl))
  f217 := Tryd.func88.trans (congrArg some (by kernel_rfl))
  f219 := Tryd.func75.trans (congrArg some (by kernel_rfl))
  f220 := Tryd.func67.trans (congrArg some (by kernel_rfl))
  f224 := Tryd.func90.trans (congrArg some (by kernel_rfl))
  f225 := Tryd.func89.trans (congrArg some (by kernel_rfl))
  f266 := Tryd.func99.trans (congrArg some (by kernel_rfl))
  f267 := Tryd.func91.trans (congrArg some (by kernel_rfl))
  f314 := Tryd.func100.trans (congrArg some (by kernel_rfl))
  t3 := Tryd.underlying3
  a3 := Tryd.isAgg3
  z3 := Tryd.sizeOf3
  v3 := Tryd.zeroValue3
  t4 := Tryd.underlying4
  a4 := Tryd.isAgg4
  z4 := Tryd.sizeOf4
  v4 := Tryd.zeroValue4
  t5 := Tryd.underlying5
  a5 := Tryd.isAgg5
  z5 := Tryd.sizeOf5
  v5 := Tryd.zeroValue5
  t9 := Tryd.underlying9
  a9 := Tryd.isAgg9
  z9 := Tryd.sizeOf9
  v9 := Tryd.zeroValue9
  t46 := Tryd.underlying126
  a46 := Tryd.isAgg126
  z46 := Tryd.sizeOf126
  v46 := Tryd.zeroValue126
  t51 := Tryd.underlying130
  a51 := Tryd.isAgg130
  z51 := Tryd.sizeOf130
  v51 := Tryd.zeroValue130
  t59 := Tryd.underlying95
  a59 := Tryd.isAgg95
  z59 := Tryd.sizeOf95
  v59 := Tryd.zeroValue95
  t146 := Tryd.underlying131
  a146 := Tryd.isAgg131
  z146 := Tryd.sizeOf131
  v146 := Tryd.zeroValue131
  g1 := by kernel_rfl
  i3 := by kernel_rfl
  i4 := by kernel_rfl
  i5 := by kernel_rfl
  i9 := by kernel_rfl
  i46 := by kernel_rfl
  i51 := by kernel_rfl
  i59 := by kernel_rfl
  i146 := by kernel_rfl
  m1 := by kernel_rfl
  s1_3 := fun w h => Go.Proofs.cell_of_shapedOpen_int (zero := #[.int .i64 0]) (t := 3) h (of_decide_eq_true (by kernel_rfl)) (by kernel_rfl) rfl (by kernel_rfl) (by kernel_rfl) Tryd.underlying3 }
open Go.RowKit Go.Lib in
theorem Tryd.strings_Cut_shaped (s sep : ByteArray) (w : World) (h : w.ShapedOpen Tryd.prog) (hs : s.size < 4294967281) :
    Calls Tryd.prog 51 #[.string s, .string sep] w fun e w' => e = .returned (.tuple #[.string ⟨(Lib.cut s.data.toList sep.data.toList).1.toArray⟩, .string ⟨(Lib.cut s.data.toList sep.data.toList).2.1.toArray⟩, .bool (Lib.cut s.data.toList sep.data.toList).2.2]) ∧ ∃ n, w' = w.drewN n := Any.strings_Cut_shaped Tryd.laysM145 s sep w h hs
def Tryd.laysM138_ren : Go.Shelf.Ren := ⟨fun | 138 => 87 | 195 => 97 | 218 => 98 | 143 => 74 | 219 => 75 | 217 => 88 | 225 => 89 | 224 => 90 | 267 => 91 | 266 => 99 | 314 => 100 | n => n, fun | 9 => 9 | 3 => 3 | 4 => 4 | 5 => 5 | 0 => 0 | 46 => 126 | 146 => 131 | 51 => 130 | n => n, fun | 1 => 0 | n => n⟩
theorem Tryd.laysM138 : Go.Proofs.LaysM.n138 Tryd.prog Tryd.laysM138_ren := {
  mixed := by kernel_rfl
  f138 := Tryd.func87.trans (congrArg some (by kernel_rfl))
  f143 := Tryd.func74.trans (congrArg some (by kernel_rfl))
  f195 := Tryd.func97.trans (congrArg some (by kernel_rfl))
  f217 := Tryd.func88.trans (congrArg some (by kernel_rfl))
  f218 := Tryd.func98.trans (congrArg some (by kernel_rfl))
  f219 := Tryd.func75.trans (congrArg some (by kernel_rfl))
  f224 := Tryd.func90.trans (congrArg some (by kernel_rfl))
  f225 := Tryd.func89.trans (congrArg some (by kernel_rfl))
  f266 := Tryd.func99.trans (congrArg some (by kernel_rfl))
  f267 := Tryd.func91.trans (congrArg some (by kernel_rfl))
  f314 := Tryd.func100.trans (congrArg some (by kernel_rfl))
  t0 := Tryd.underlying0
  a0 := Tryd.isAgg0
  z0 := Tryd.sizeOf0
  v0 := Tryd.zeroValue0
  t3 := Tryd.underlying3
  a3 := Tryd.isAgg3
  z3 := Tryd.sizeOf3
  v3 := Tryd.zeroValue3
  t4 := Tryd.underlying4
  a4 := Tryd.isAgg4
  z4 := Tryd.sizeOf4
  v4 := Tryd.zeroValue4
  t5 := Tryd.underlying5
  a5 := Tryd.isAgg5
  z5 := Tryd.sizeOf5
  v5 := Tryd.zeroValue5
  t9 := Tryd.underlying9
  a9 := Tryd.isAgg9
  z9 := Tryd.sizeOf9
  v9 := Tryd.zeroValue9
  t46 := Tryd.underlying126
  a46 := Tryd.isAgg126
  z46 := Tryd.sizeOf126
  v46 := Tryd.zeroValue126
  t51 := Tryd.underlying130
  a51 := Tryd.isAgg130
  z51 := Tryd.sizeOf130
  v51 := Tryd.zeroValue130
  t146 := Tryd.underlying131
  a146 := Tryd.isAgg131
  z146 := Tryd.sizeOf131
  v146 := Tryd.zeroValue131
  g1 := by kernel_rfl
  i0 := by kernel_rfl
  i3 := by kernel_rfl
  i4 := by kernel_rfl
  i5 := by kernel_rfl
  i9 := by kernel_rfl
  i46 := by kernel_rfl
  i51 := by kernel_rfl
  i146 := by kernel_rfl
  m1 := by kernel_rfl
  s1_3 := fun w h => Go.Proofs.cell_of_shapedOpen_int (zero := #[.int .i64 0]) (t := 3) h (of_decide_eq_true (by kernel_rfl)) (by kernel_rfl) rfl (by kernel_rfl) (by kernel_rfl) Tryd.underlying3 }
open Go.RowKit Go.Lib in
theorem Tryd.strings_Count_shaped (s sub : ByteArray) (w : World) (h : w.ShapedOpen Tryd.prog) (hs : s.size < 4294967281) (h2 : 2 ≤ sub.size) :
    Calls Tryd.prog 87 #[.string s, .string sub] w fun e w' => e = .returned (.int .i64 (Lib.countB s sub)) ∧ w' = w := Any.strings_Count_shaped Tryd.laysM138 s sub w h hs h2
def Tryd.lays206_ren : Go.Shelf.Ren := ⟨fun | 206 => 73 | n => n, fun | 9 => 9 | 4 => 4 | 3 => 3 | n => n, fun | n => n⟩
theorem Tryd.lays206 : Go.Proofs.Lays.n206 Tryd.prog Tryd.lays206_ren := {
  mixed := by kernel_rfl
  f206 := Tryd.func73.trans (congrArg some (by kernel_rfl))
  t3 := Tryd.underlying3
  a3 := Tryd.isAgg3
  z3 := Tryd.sizeOf3
  v3 := Tryd.zeroValue3
  t4 := Tryd.underlying4
  a4 := Tryd.isAgg4
  z4 := Tryd.sizeOf4
  v4 := Tryd.zeroValue4
  t9 := Tryd.underlying9
  a9 := Tryd.isAgg9
  z9 := Tryd.sizeOf9
  v9 := Tryd.zeroValue9 }
open Go.RowKit Go.Lib in
theorem Tryd.stringslite_HasPrefix (s p : ByteArray) (w : World) :
    Calls Tryd.prog 73 #[.string s, .string p] w fun e w' => e = .returned (.bool (Lib.hasPrefix s.data.toList p.data.toList)) ∧ w' = w := Any.stringslite_HasPrefix Tryd.lays206 s p w
def Tryd.lays99_ren : Go.Shelf.Ren := ⟨fun | 99 => 64 | 206 => 73 | n => n, fun | 9 => 9 | 4 => 4 | 3 => 3 | n => n, fun | n => n⟩
theorem Tryd.lays99 : Go.Proofs.Lays.n99 Tryd.prog Tryd.lays99_ren := {
  mixed := by kernel_rfl
  f99 := Tryd.func64.trans (congrArg some (by kernel_rfl))
  f206 := Tryd.func73.trans (congrArg some (by kernel_rfl))
  t3 := Tryd.underlying3
  a3 := Tryd.isAgg3
  z3 := Tryd.sizeOf3
  v3 := Tryd.zeroValue3
  t4 := Tryd.underlying4
  a4 := Tryd.isAgg4
  z4 := Tryd.sizeOf4
  v4 := Tryd.zeroValue4
  t9 := Tryd.underlying9
  a9 := Tryd.isAgg9
  z9 := Tryd.sizeOf9
  v9 := Tryd.zeroValue9 }
open Go.RowKit Go.Lib in
theorem Tryd.strings_HasPrefix (s p : ByteArray) (w : World) :
    Calls Tryd.prog 64 #[.string s, .string p] w fun e w' => e = .returned (.bool (Lib.hasPrefix s.data.toList p.data.toList)) ∧ w' = w := Any.strings_HasPrefix Tryd.lays99 s p w
def Tryd.lays208_ren : Go.Shelf.Ren := ⟨fun | 208 => 96 | 206 => 73 | n => n, fun | 9 => 9 | 4 => 4 | 3 => 3 | n => n, fun | n => n⟩
theorem Tryd.lays208 : Go.Proofs.Lays.n208 Tryd.prog Tryd.lays208_ren := {
  mixed := by kernel_rfl
  f206 := Tryd.func73.trans (congrArg some (by kernel_rfl))
  f208 := Tryd.func96.trans (congrArg some (by kernel_rfl))
  t3 := Tryd.underlying3
  a3 := Tryd.isAgg3
  z3 := Tryd.sizeOf3
  v3 := Tryd.zeroValue3
  t4 := Tryd.underlying4
  a4 := Tryd.isAgg4
  z4 := Tryd.sizeOf4
  v4 := Tryd.zeroValue4
  t9 := Tryd.underlying9
  a9 := Tryd.isAgg9
  z9 := Tryd.sizeOf9
  v9 := Tryd.zeroValue9 }
open Go.RowKit Go.Lib in
theorem Tryd.stringslite_TrimPrefix (s p : ByteArray) (w : World) :
    Calls Tryd.prog 96 #[.string s, .string p] w fun e w' => e = .returned (.string ⟨(Lib.trimPrefix s.data.toList p.data.toList).toArray⟩) ∧ w' = w := Any.stringslite_TrimPrefix Tryd.lays208 s p w
def Tryd.lays101_ren : Go.Shelf.Ren := ⟨fun | 101 => 84 | 208 => 96 | 206 => 73 | n => n, fun | 9 => 9 | 4 => 4 | 3 => 3 | n => n, fun | n => n⟩
theorem Tryd.lays101 : Go.Proofs.Lays.n101 Tryd.prog Tryd.lays101_ren := {
  mixed := by kernel_rfl
  f101 := Tryd.func84.trans (congrArg some (by kernel_rfl))
  f206 := Tryd.func73.trans (congrArg some (by kernel_rfl))
  f208 := Tryd.func96.trans (congrArg some (by kernel_rfl))
  t3 := Tryd.underlying3
  a3 := Tryd.isAgg3
  z3 := Tryd.sizeOf3
  v3 := Tryd.zeroValue3
  t4 := Tryd.underlying4
  a4 := Tryd.isAgg4
  z4 := Tryd.sizeOf4
  v4 := Tryd.zeroValue4
  t9 := Tryd.underlying9
  a9 := Tryd.isAgg9
  z9 := Tryd.sizeOf9
  v9 := Tryd.zeroValue9 }
open Go.RowKit Go.Lib in
theorem Tryd.strings_TrimPrefix (s p : ByteArray) (w : World) :
    Calls Tryd.prog 84 #[.string s, .string p] w fun e w' => e = .returned (.string ⟨(Lib.trimPrefix s.data.toList p.data.toList).toArray⟩) ∧ w' = w := Any.strings_TrimPrefix Tryd.lays101 s p w
open Go.RowKit Go.Lib in
theorem Tryd.strings_Count_any (s sep : ByteArray) (m : Int) (w : World) (hs : s.size < 4294967281) (hm : w.cell? ⟨0, 0, none⟩ = some (.int .i64 m)) (h1 : 1 ≤ sep.size) :
    Calls Tryd.prog 87 #[.string s, .string sep] w fun e w' => e = .returned (.int .i64 (Lib.countB s sep)) ∧ w' = w := Any.strings_Count_any Tryd.lays138 s sep m w hs hm h1
def Tryd.lays221_ren : Go.Shelf.Ren := ⟨fun | 221 => 72 | 268 => 86 | 138 => 87 | 143 => 74 | 195 => 97 | 197 => 93 | 218 => 98 | 219 => 75 | 260 => 101 | 217 => 88 | 225 => 89 | 224 => 90 | 267 => 91 | 266 => 99 | 314 => 100 | n => n, fun | 9 => 9 | 3 => 3 | 31 => 76 | 4 => 4 | 0 => 0 | 105 => 127 | 21 => 21 | 5 => 5 | 46 => 126 | 119 => 134 | 139 => 137 | 138 => 136 | 146 => 131 | 51 => 130 | n => n, fun | 1 => 0 | 3 => 1 | 4 => 2 | n => n⟩
theorem Tryd.lays221 : Go.Proofs.Lays.n221 Tryd.prog Tryd.lays221_ren := {
  mixed := by kernel_rfl
  f138 := Tryd.func87.trans (congrArg some (by kernel_rfl))
  f143 := Tryd.func74.trans (congrArg some (by kernel_rfl))
  f195 := Tryd.func97.trans (congrArg some (by kernel_rfl))
  f197 := Tryd.func93.trans (congrArg some (by kernel_rfl))
  f217 := Tryd.func88.trans (congrArg some (by kernel_rfl))
  f218 := Tryd.func98.trans (congrArg some (by kernel_rfl))
  f219 := Tryd.func75.trans (congrArg some (by kernel_rfl))
  f221 := Tryd.func72.trans (congrArg some (by kernel_rfl))
  f224 := Tryd.func90.trans (congrArg some (by kernel_rfl))
  f225 := Tryd.func89.trans (congrArg some (by kernel_rfl))
  f260 := Tryd.func101.trans (congrArg some (by kernel_rfl))
  f266 := Tryd.func99.trans (congrArg some (by kernel_rfl))
  f267 := Tryd.func91.trans (congrArg some (by kernel_rfl))
  f268 := Tryd.func86.trans (congrArg some (by kernel_rfl))
  f314 := Tryd.func100.trans (congrArg some (by kernel_rfl))
  t0 := Tryd.underlying0
  a0 := Tryd.isAgg0
  z0 := Tryd.sizeOf0
  v0 := Tryd.zeroValue0
  t3 := Tryd.underlying3
  a3 := Tryd.isAgg3
  z3 := Tryd.sizeOf3
  v3 := Tryd.zeroValue3
  t4 := Tryd.underlying4
  a4 := Tryd.isAgg4
  z4 := Tryd.sizeOf4
  v4 := Tryd.zeroValue4
  t5 := Tryd.underlying5
  a5 := Tryd.isAgg5
  z5 := Tryd.sizeOf5
  v5 := Tryd.zeroValue5
  t9 := Tryd.underlying9
  a9 := Tryd.isAgg9
  z9 := Tryd.sizeOf9
  v9 := Tryd.zeroValue9
  t21 := Tryd.underlying21
  a21 := Tryd.isAgg21
  z21 := Tryd.sizeOf21
  v21 := Tryd.zeroValue21
  t31 := Tryd.underlying76
  a31 := Tryd.isAgg76
  z31 := Tryd.sizeOf76
  v31 := Tryd.zeroValue76
  t46 := Tryd.underlying126
  a46 := Tryd.isAgg126
  z46 := Tryd.sizeOf126
  v46 := Tryd.zeroValue126
  t51 := Tryd.underlying130
  a51 := Tryd.isAgg130
  z51 := Tryd.sizeOf130
  v51 := Tryd.zeroValue130
  t105 := Tryd.underlying127
  a105 := Tryd.isAgg127
  z105 := Tryd.sizeOf127
  v105 := Tryd.zeroValue127
  t119 := Tryd.underlying134
  a119 := Tryd.isAgg134
  z119 := Tryd.sizeOf134
  t138 := Tryd.underlying136
  a138 := Tryd.isAgg136
  z138 := Tryd.sizeOf136
  v138 := Tryd.zeroValue136
  t139 := Tryd.underlying137
  a139 := Tryd.isAgg137
  z139 := Tryd.sizeOf137
  v139 := Tryd.zeroValue137
  t146 := Tryd.underlying131
  a146 := Tryd.isAgg131
  z146 := Tryd.sizeOf131
  v146 := Tryd.zeroValue131
  g1 := by kernel_rfl
  g3 := by kernel_rfl
  g4 := by kernel_rfl }
open Go.RowKit Go.Lib in
theorem Tryd.strings_genSplit (s sep : ByteArray) (sv : Nat) (n : Int) (N : Nat) (m : Int) (w : World) (hs : s.size < 4294967281) (hm : w.cell? ⟨0, 0, none⟩ = some (.int .i64 m)) (h1 : 1 ≤ sep.size) (hsv : sv ≤ sep.size) (hn0 : n ≠ 0) (hn63 : n ≤ 9223372036854775807) (hN : (N : Int) = min (if n < 0 then (Lib.countB s sep : Int) + 1 else n) ((s.size : Int) + 1)) :
    Calls Tryd.prog 72 #[.string s, .string sep, .int .i64 sv, .int .i64 n] w fun e w' =>
      e = .returned (.slice (some ⟨w.heap.size, 0, none⟩) (Lib.splitB sep sv (N - 1) s).length N) ∧ w' = w.alloc (.cells (Lib.cellsOf (Lib.splitB sep sv (N - 1) s) N) 9) := Any.strings_genSplit Tryd.lays221 (by kernel_rfl) s sep sv n N m w hs hm h1 hsv hn0 hn63 hN
def Tryd.lays146_ren : Go.Shelf.Ren := ⟨fun | 146 => 61 | 221 => 72 | 268 => 86 | 138 => 87 | 143 => 74 | 195 => 97 | 197 => 93 | 218 => 98 | 219 => 75 | 260 => 101 | 217 => 88 | 225 => 89 | 224 => 90 | 267 => 91 | 266 => 99 | 314 => 100 | n => n, fun | 9 => 9 | 31 => 76 | 3 => 3 | 4 => 4 | 0 => 0 | 105 => 127 | 21 => 21 | 5 => 5 | 46 => 126 | 119 => 134 | 139 => 137 | 138 => 136 | 146 => 131 | 51 => 130 | n => n, fun | 1 => 0 | 3 => 1 | 4 => 2 | n => n⟩
theorem Tryd.lays146 : Go.Proofs.Lays.n146 Tryd.prog Tryd.lays146_ren := {
  mixed := by kernel_rfl
  f138 := Tryd.func87.trans (congrArg some (by kernel_rfl))
  f143 := Tryd.func74.trans (congrArg some (by kernel_rfl))
  f146 := Tryd.func61.trans (congrArg some (by kernel_rfl))
  f195 := Tryd.func97.trans (congrArg some (by kernel_rfl))
  f197 := Tryd.func93.trans (congrArg some (by kernel_rfl))
  f217 := Tryd.func88.trans (congrArg some (by kernel_rfl))
  f218 := Tryd.func98.trans (congrArg some (by kernel_rfl))
  f219 := Tryd.func75.trans (congrArg some (by kernel_rfl))
  f221 := Tryd.func72.trans (congrArg some (by kernel_rfl))
  f224 := Tryd.func90.trans (congrArg some (by kernel_rfl))
  f225 := Tryd.func89.trans (congrArg some (by kernel_rfl))
  f260 := Tryd.func101.trans (congrArg some (by kernel_rfl))
  f266 := Tryd.func99.trans (congrArg some (by kernel_rfl))
  f267 := Tryd.func91.trans (congrArg some (by kernel_rfl))
  f268 := Tryd.func86.trans (congrArg some (by kernel_rfl))
  f314 := Tryd.func100.trans (congrArg some (by kernel_rfl))
  t0 := Tryd.underlying0
  a0 := Tryd.isAgg0
  z0 := Tryd.sizeOf0
  v0 := Tryd.zeroValue0
  t3 := Tryd.underlying3
  a3 := Tryd.isAgg3
  z3 := Tryd.sizeOf3
  v3 := Tryd.zeroValue3
  t4 := Tryd.underlying4
  a4 := Tryd.isAgg4
  z4 := Tryd.sizeOf4
  v4 := Tryd.zeroValue4
  t5 := Tryd.underlying5
  a5 := Tryd.isAgg5
  z5 := Tryd.sizeOf5
  v5 := Tryd.zeroValue5
  t9 := Tryd.underlying9
  a9 := Tryd.isAgg9
  z9 := Tryd.sizeOf9
  v9 := Tryd.zeroValue9
  t21 := Tryd.underlying21
  a21 := Tryd.isAgg21
  z21 := Tryd.sizeOf21
  v21 := Tryd.zeroValue21
  t31 := Tryd.underlying76
  a31 := Tryd.isAgg76
  z31 := Tryd.sizeOf76
  v31 := Tryd.zeroValue76
  t46 := Tryd.underlying126
  a46 := Tryd.isAgg126
  z46 := Tryd.sizeOf126
  v46 := Tryd.zeroValue126
  t51 := Tryd.underlying130
  a51 := Tryd.isAgg130
  z51 := Tryd.sizeOf130
  v51 := Tryd.zeroValue130
  t105 := Tryd.underlying127
  a105 := Tryd.isAgg127
  z105 := Tryd.sizeOf127
  v105 := Tryd.zeroValue127
  t119 := Tryd.underlying134
  a119 := Tryd.isAgg134
  z119 := Tryd.sizeOf134
  t138 := Tryd.underlying136
  a138 := Tryd.isAgg136
  z138 := Tryd.sizeOf136
  v138 := Tryd.zeroValue136
  t139 := Tryd.underlying137
  a139 := Tryd.isAgg137
  z139 := Tryd.sizeOf137
  v139 := Tryd.zeroValue137
  t146 := Tryd.underlying131
  a146 := Tryd.isAgg131
  z146 := Tryd.sizeOf131
  v146 := Tryd.zeroValue131
  g1 := by kernel_rfl
  g3 := by kernel_rfl
  g4 := by kernel_rfl }
open Go.RowKit Go.Lib in
theorem Tryd.strings_Split (s sep : ByteArray) (m : Int) (w : World) (hs : s.size < 4294967281) (hm : w.cell? ⟨0, 0, none⟩ = some (.int .i64 m)) (h1 : 1 ≤ sep.size) :
    Calls Tryd.prog 61 #[.string s, .string sep] w fun e w' =>
      e = .returned (.slice (some ⟨w.heap.size, 0, none⟩) (Lib.countB s sep + 1) (Lib.countB s sep + 1)) ∧ w' = w.alloc (.cells ((Lib.splitB sep 0 (Lib.countB s sep) s).map Value.string).toArray 9) := Any.strings_Split Tryd.lays146 (by kernel_rfl) s sep m w hs hm h1
def Tryd.laysM146_ren : Go.Shelf.Ren := ⟨fun | 146 => 61 | 221 => 72 | 268 => 86 | 138 => 87 | 143 => 74 | 195 => 97 | 197 => 93 | 218 => 98 | 219 => 75 | 260 => 101 | 217 => 88 | 225 => 89 | 224 => 90 | 267 => 91 | 266 => 99 | 314 => 100 | n => n, fun | 9 => 9 | 31 => 76 | 3 => 3 | 4 => 4 | 0 => 0 | 105 => 127 | 21 => 21 | 5 => 5 | 46 => 126 | 119 => 134 | 139 => 137 | 138 => 136 | 146 => 131 | 51 => 130 | n => n, fun | 1 => 0 | 3 => 1 | 4 => 2 | n => n⟩
theorem Tryd.laysM146 : Go.Proofs.LaysM.n146 Tryd.prog Tryd.laysM146_ren := {
  mixed := by kernel_rfl
  f138 := Tryd.func87.trans (congrArg some (by kernel_rfl))
  f143 := Tryd.func74.trans (congrArg some (by kernel_rfl))
  f146 := Tryd.func61.trans (congrArg some (by kernel_rfl))
  f195 := Tryd.func97.trans (congrArg some (by kernel_rfl))
  f197 := Tryd.func93.trans (congrArg some (by kernel_rfl))
  f217 := Tryd.func88.trans (congrArg some (by kernel_rfl))
  f218 := Tryd.func98.trans (congrArg some (by kernel_rfl))
  f219 := Tryd.func75.trans (congrArg some (by kernel_rfl))
  f221 := Tryd.func72.trans (congrArg some (by kernel_rfl))
  f224 := Tryd.func90.trans (congrArg some (by kernel_rfl))
  f225 := Tryd.func89.trans (congrArg some (by kernel_rfl))
  f260 := Tryd.func101.trans (congrArg some (by kernel_rfl))
  f266 := Tryd.func99.trans (congrArg some (by kernel_rfl))
  f267 := Tryd.func91.trans (congrArg some (by kernel_rfl))
  f268 := Tryd.func86.trans (congrArg some (by kernel_rfl))
  f314 := Tryd.func100.trans (congrArg some (by kernel_rfl))
  t0 := Tryd.underlying0
  a0 := Tryd.isAgg0
  z0 := Tryd.sizeOf0
  v0 := Tryd.zeroValue0
  t3 := Tryd.underlying3
  a3 := Tryd.isAgg3
  z3 := Tryd.sizeOf3
  v3 := Tryd.zeroValue3
  t4 := Tryd.underlying4
  a4 := Tryd.isAgg4
  z4 := Tryd.sizeOf4
  v4 := Tryd.zeroValue4
  t5 := Tryd.underlying5
  a5 := Tryd.isAgg5
  z5 := Tryd.sizeOf5
  v5 := Tryd.zeroValue5
  t9 := Tryd.underlying9
  a9 := Tryd.isAgg9
  z9 := Tryd.sizeOf9
  v9 := Tryd.zeroValue9
  t21 := Tryd.underlying21
  a21 := Tryd.isAgg21
  z21 := Tryd.sizeOf21
  v21 := Tryd.zeroValue21
  t31 := Tryd.underlying76
  a31 := Tryd.isAgg76
  z31 := Tryd.sizeOf76
  v31 := Tryd.zeroValue76
  t46 := Tryd.underlying126
  a46 := Tryd.isAgg126
  z46 := Tryd.sizeOf126
  v46 := Tryd.zeroValue126
  t51 := Tryd.underlying130
  a51 := Tryd.isAgg130
  z51 := Tryd.sizeOf130
  v51 := Tryd.zeroValue130
  t105 := Tryd.underlying127
  a105 := Tryd.isAgg127
  z105 := Tryd.sizeOf127
  v105 := Tryd.zeroValue127
  t119 := Tryd.underlying134
  a119 := Tryd.isAgg134
  z119 := Tryd.sizeOf134
  t138 := Tryd.underlying136
  a138 := Tryd.isAgg136
  z138 := Tryd.sizeOf136
  v138 := Tryd.zeroValue136
  t139 := Tryd.underlying137
  a139 := Tryd.isAgg137
  z139 := Tryd.sizeOf137
  v139 := Tryd.zeroValue137
  t146 := Tryd.underlying131
  a146 := Tryd.isAgg131
  z146 := Tryd.sizeOf131
  v146 := Tryd.zeroValue131
  g1 := by kernel_rfl
  g3 := by kernel_rfl
  g4 := by kernel_rfl
  i0 := by kernel_rfl
  i3 := by kernel_rfl
  i4 := by kernel_rfl
  i5 := by kernel_rfl
  i9 := by kernel_rfl
  i21 := by kernel_rfl
  i31 := by kernel_rfl
  i46 := by kernel_rfl
  i51 := by kernel_rfl
  i105 := by kernel_rfl
  i138 := by kernel_rfl
  i139 := by kernel_rfl
  i146 := by kernel_rfl
  m1 := by kernel_rfl
  s1_3 := fun w h => Go.Proofs.cell_of_shapedOpen_int (zero := #[.int .i64 0]) (t := 3) h (of_decide_eq_true (by kernel_rfl)) (by kernel_rfl) rfl (by kernel_rfl) (by kernel_rfl) Tryd.underlying3
  m3 := by kernel_rfl
  m4 := by kernel_rfl }
open Go.RowKit Go.Lib in
theorem Tryd.strings_Split_shaped (s sep : ByteArray) (w : World) (h : w.ShapedOpen Tryd.prog) (hs : s.size < 4294967281) (h1 : 1 ≤ sep.size) :
    Calls Tryd.prog 61 #[.string s, .string sep] w fun e w' =>
      e = .returned (.slice (some ⟨w.heap.size, 0, none⟩) (Lib.countB s sep + 1) (Lib.countB s sep + 1)) ∧ w' = w.alloc (.cells ((Lib.splitB sep 0 (Lib.countB s sep) s).map Value.string).toArray 9) := Any.strings_Split_shaped Tryd.laysM146 s sep w h hs h1
def Tryd.lays197_ren : Go.Shelf.Ren := ⟨fun | 197 => 93 | 260 => 101 | n => n, fun | 9 => 9 | 21 => 21 | 3 => 3 | 4 => 4 | 5 => 5 | 105 => 127 | 119 => 134 | 0 => 0 | 46 => 126 | 139 => 137 | 138 => 136 | n => n, fun | 3 => 1 | 4 => 2 | n => n⟩
theorem Tryd.lays197 : Go.Proofs.Lays.n197 Tryd.prog Tryd.lays197_ren := {
  mixed := by kernel_rfl
  f197 := Tryd.func93.trans (congrArg some (by kernel_rfl))
  f260 := Tryd.func101.trans (congrArg some (by kernel_rfl))
  t0 := Tryd.underlying0
  a0 := Tryd.isAgg0
  z0 := Tryd.sizeOf0
  v0 := Tryd.zeroValue0
  t3 := Tryd.underlying3
  a3 := Tryd.isAgg3
  z3 := Tryd.sizeOf3
  v3 := Tryd.zeroValue3
  t4 := Tryd.underlying4
  a4 := Tryd.isAgg4
  z4 := Tryd.sizeOf4
  v4 := Tryd.zeroValue4
  t5 := Tryd.underlying5
  a5 := Tryd.isAgg5
  z5 := Tryd.sizeOf5
  v5 := Tryd.zeroValue5
  t9 := Tryd.underlying9
  a9 := Tryd.isAgg9
  z9 := Tryd.sizeOf9
  v9 := Tryd.zeroValue9
  t21 := Tryd.underlying21
  a21 := Tryd.isAgg21
  z21 := Tryd.sizeOf21
  v21 := Tryd.zeroValue21
  t46 := Tryd.underlying126
  a46 := Tryd.isAgg126
  z46 := Tryd.sizeOf126
  v46 := Tryd.zeroValue126
  t105 := Tryd.underlying127
  a105 := Tryd.isAgg127
  z105 := Tryd.sizeOf127
  v105 := Tryd.zeroValue127
  t119 := Tryd.underlying134
  a119 := Tryd.isAgg134
  z119 := Tryd.sizeOf134
  t138 := Tryd.underlying136
  a138 := Tryd.isAgg136
  z138 := Tryd.sizeOf136
  v138 := Tryd.zeroValue136
  t139 := Tryd.underlying137
  a139 := Tryd.isAgg137
  z139 := Tryd.sizeOf137
  v139 := Tryd.zeroValue137
  g3 := by kernel_rfl
  g4 := by kernel_rfl }
open Go.RowKit Go.Lib in
theorem Tryd.utf8_DecodeRuneInString_ascii (s : ByteArray) (x : UInt8) (w : World) (h0 : s.data.toList[0]? = some x) (hx : x.toNat < 128) :
    Calls Tryd.prog 93 #[.string s] w fun e w' => e = .returned (.tuple #[.int .i32 x.toNat, .int .i64 1]) ∧ w' = w := Any.utf8_DecodeRuneInString_ascii Tryd.lays197 s x w h0 hx
def Tryd.lays152_ren : Go.Shelf.Ren := ⟨fun | 152 => 102 | 137 => 104 | 119 => 105 | 224 => 90 | 225 => 89 | 217 => 88 | 266 => 99 | n => n, fun | 9 => 9 | 21 => 21 | 3 => 3 | 4 => 4 | 5 => 5 | 0 => 0 | 46 => 126 | n => n, fun | n => n⟩
theorem Tryd.lays152 : Go.Proofs.Lays.n152 Tryd.prog Tryd.lays152_ren := {
  mixed := by kernel_rfl
  f119 := Tryd.func105.trans (congrArg some (by kernel_rfl))
  f137 := Tryd.func104.trans (congrArg some (by kernel_rfl))
  f152 := Tryd.func102.trans (congrArg some (by kernel_rfl))
  f217 := Tryd.func88.trans (congrArg some (by kernel_rfl))
  f224 := Tryd.func90.trans (congrArg some (by kernel_rfl))
  f225 := Tryd.func89.trans (congrArg some (by kernel_rfl))
  f266 := Tryd.func99.trans (congrArg some (by kernel_rfl))
  t0 := Tryd.underlying0
  a0 := Tryd.isAgg0
  z0 := Tryd.sizeOf0
  v0 := Tryd.zeroValue0
  t3 := Tryd.underlying3
  a3 := Tryd.isAgg3
  z3 := Tryd.sizeOf3
  v3 := Tryd.zeroValue3
  t4 := Tryd.underlying4
  a4 := Tryd.isAgg4
  z4 := Tryd.sizeOf4
  v4 := Tryd.zeroValue4
  t5 := Tryd.underlying5
  a5 := Tryd.isAgg5
  z5 := Tryd.sizeOf5
  v5 := Tryd.zeroValue5
  t9 := Tryd.underlying9
  a9 := Tryd.isAgg9
  z9 := Tryd.sizeOf9
  v9 := Tryd.zeroValue9
  t21 := Tryd.underlying21
  a21 := Tryd.isAgg21
  z21 := Tryd.sizeOf21
  v21 := Tryd.zeroValue21
  t46 := Tryd.underlying126
  a46 := Tryd.isAgg126
  z46 := Tryd.sizeOf126
  v46 := Tryd.zeroValue126 }
open Go.RowKit Go.Lib in
theorem Tryd.strings_IndexRune_ascii (s : ByteArray) (r : Int) (w : World) (h0 : 0 ≤ r) (h1 : r < 128) :
    Calls Tryd.prog 102 #[.string s, .int .i32 r] w fun e w' => e = .returned (.int .i64 (Lib.indexByte s.data.toList r.toNat.toUInt8)) ∧ w' = w := Any.strings_IndexRune_ascii Tryd.lays152 s r w h0 h1
def Tryd.lays151_ren : Go.Shelf.Ren := ⟨fun | 151 => 94 | 152 => 102 | 137 => 104 | 119 => 105 | 224 => 90 | 225 => 89 | 217 => 88 | 266 => 99 | n => n, fun | 9 => 9 | 21 => 21 | 4 => 4 | 3 => 3 | 5 => 5 | 0 => 0 | 46 => 126 | n => n, fun | n => n⟩
theorem Tryd.lays151 : Go.Proofs.Lays.n151 Tryd.prog Tryd.lays151_ren := {
  mixed := by kernel_rfl
  f119 := Tryd.func105.trans (congrArg some (by kernel_rfl))
  f137 := Tryd.func104.trans (congrArg some (by kernel_rfl))
  f151 := Tryd.func94.trans (congrArg some (by kernel_rfl))
  f152 := Tryd.func102.trans (congrArg some (by kernel_rfl))
  f217 := Tryd.func88.trans (congrArg some (by kernel_rfl))
  f224 := Tryd.func90.trans (congrArg some (by kernel_rfl))
  f225 := Tryd.func89.trans (congrArg some (by kernel_rfl))
  f266 := Tryd.func99.trans (congrArg some (by kernel_rfl))
  t0 := Tryd.underlying0
  a0 := Tryd.isAgg0
  z0 := Tryd.sizeOf0
  v0 := Tryd.zeroValue0
  t3 := Tryd.underlying3
  a3 := Tryd.isAgg3
  z3 := Tryd.sizeOf3
  v3 := Tryd.zeroValue3
  t4 := Tryd.underlying4
  a4 := Tryd.isAgg4
  z4 := Tryd.sizeOf4
  v4 := Tryd.zeroValue4
  t5 := Tryd.underlying5
  a5 := Tryd.isAgg5
  z5 := Tryd.sizeOf5
  v5 := Tryd.zeroValue5
  t9 := Tryd.underlying9
  a9 := Tryd.isAgg9
  z9 := Tryd.sizeOf9
  v9 := Tryd.zeroValue9
  t21 := Tryd.underlying21
  a21 := Tryd.isAgg21
  z21 := Tryd.sizeOf21
  v21 := Tryd.zeroValue21
  t46 := Tryd.underlying126
  a46 := Tryd.isAgg126
  z46 := Tryd.sizeOf126
  v46 := Tryd.zeroValue126 }
open Go.RowKit Go.Lib in
theorem Tryd.strings_ContainsRune_ascii (s : ByteArray) (r : Int) (w : World) (h0 : 0 ≤ r) (h1 : r < 128) :
    Calls Tryd.prog 94 #[.string s, .int .i32 r] w fun e w' => e = .returned (.bool (decide (0 ≤ Lib.indexByte s.data.toList r.toNat.toUInt8))) ∧ w' = w := Any.strings_ContainsRune_ascii Tryd.lays151 s r w h0 h1
open Go.RowKit Go.Lib in
theorem Tryd.utf8_RuneCountInString_ascii (s : ByteArray) (w : World) (hs : s.size < 4294967281) (hascii : ∀ (j : Nat) b, s.data.toList[j]? = some b → b.toNat < 128) :
    Calls Tryd.prog 97 #[.string s] w fun e w' => e = .returned (.int .i64 s.size) ∧ w' = w.iter s s.size := Any.utf8_RuneCountInString_ascii Tryd.lays195 s w hs hascii
def Tryd.lays227_ren : Go.Shelf.Ren := ⟨fun | 227 => 78 | n => n, fun | 9 => 9 | 116 => 117 | 4 => 4 | 0 => 0 | 3 => 3 | 5 => 5 | n => n, fun | n => n⟩
theorem Tryd.lays227 : Go.Proofs.Lays.n227 Tryd.prog Tryd.lays227_ren := {
  mixed := by kernel_rfl
  f227 := Tryd.func78.trans (congrArg some (by kernel_rfl))
  t0 := Tryd.underlying0
  a0 := Tryd.isAgg0
  z0 := Tryd.sizeOf0
  v0 := Tryd.zeroValue0
  t3 := Tryd.underlying3
  a3 := Tryd.isAgg3
  z3 := Tryd.sizeOf3
  v3 := Tryd.zeroValue3
  t4 := Tryd.underlying4
  a4 := Tryd.isAgg4
  z4 := Tryd.sizeOf4
  v4 := Tryd.zeroValue4
  t5 := Tryd.underlying5
  a5 := Tryd.isAgg5
  z5 := Tryd.sizeOf5
  v5 := Tryd.zeroValue5
  t9 := Tryd.underlying9
  a9 := Tryd.isAgg9
  z9 := Tryd.sizeOf9
  v9 := Tryd.zeroValue9
  t116 := Tryd.underlying117
  a116 := Tryd.isAgg117
  z116 := Tryd.sizeOf117 }
open Go.RowKit Go.Lib in
theorem Tryd.strings_makeASCIISet (hv116 : ∀ w, (zeroValue 117).run Tryd.prog w = .ok (.agg (Array.replicate 256 (.bool false))) w) (chars : ByteArray) (w : World) (hs : chars.size < 4294967281) (hascii : ∀ (j : Nat) b, chars.data.toList[j]? = some b → b.toNat < 128) :
    Calls Tryd.prog 78 #[.string chars] w fun e w' => e = .returned (.tuple #[.agg (Lib.setCells chars.data.toList), .bool true]) ∧ w' = w.alloc (.cells (Lib.setCells chars.data.toList) 117) := Any.strings_makeASCIISet Tryd.lays227 hv116 (by kernel_rfl) chars w hs hascii
def Tryd.lays228_ren : Go.Shelf.Ren := ⟨fun | 228 => 92 | n => n, fun | 124 => 121 | 5 => 5 | 4 => 4 | 0 => 0 | 116 => 117 | n => n, fun | n => n⟩
theorem Tryd.lays228 : Go.Proofs.Lays.n228 Tryd.prog Tryd.lays228_ren := {
  mixed := by kernel_rfl
  f228 := Tryd.func92.trans (congrArg some (by kernel_rfl))
  t0 := Tryd.underlying0
  a0 := Tryd.isAgg0
  z0 := Tryd.sizeOf0
  v0 := Tryd.zeroValue0
  t4 := Tryd.underlying4
  a4 := Tryd.isAgg4
  z4 := Tryd.sizeOf4
  v4 := Tryd.zeroValue4
  t5 := Tryd.underlying5
  a5 := Tryd.isAgg5
  z5 := Tryd.sizeOf5
  v5 := Tryd.zeroValue5
  t116 := Tryd.underlying117
  a116 := Tryd.isAgg117
  z116 := Tryd.sizeOf117
  t124 := Tryd.underlying121
  a124 := Tryd.isAgg121
  z124 := Tryd.sizeOf121
  v124 := Tryd.zeroValue121 }
open Go.RowKit Go.Lib in
theorem Tryd.asciiSet_contains (b : Nat) (x : UInt8) (v : Bool) (w : World) (hc : w.cell? ⟨b, x.toNat, none⟩ = some (.bool v)) :
    Calls Tryd.prog 92 #[.pointer (some ⟨b, 0, none⟩), .int .u8 x.toNat] w fun e w' => e = .returned (.bool v) ∧ w' = w := Any.asciiSet_contains Tryd.lays228 b x v w hc
def Tryd.lays268_ren : Go.Shelf.Ren := ⟨fun | 268 => 86 | 195 => 97 | 197 => 93 | 260 => 101 | n => n, fun | 9 => 9 | 3 => 3 | 31 => 76 | 4 => 4 | 105 => 127 | 21 => 21 | 0 => 0 | 5 => 5 | 119 => 134 | 46 => 126 | 139 => 137 | 138 => 136 | n => n, fun | 3 => 1 | 4 => 2 | n => n⟩
theorem Tryd.lays268 : Go.Proofs.Lays.n268 Tryd.prog Tryd.lays268_ren := {
  mixed := by kernel_rfl
  f195 := Tryd.func97.trans (congrArg some (by kernel_rfl))
  f197 := Tryd.func93.trans (congrArg some (by kernel_rfl))
  f260 := Tryd.func101.trans (congrArg some (by kernel_rfl))
  f268 := Tryd.func86.trans (congrArg some (by kernel_rfl))
  t0 := Tryd.underlying0
  a0 := Tryd.isAgg0
  z0 := Tryd.sizeOf0
  v0 := Tryd.zeroValue0
  t3 := Tryd.underlying3
  a3 := Tryd.isAgg3
  z3 := Tryd.sizeOf3
  v3 := Tryd.zeroValue3
  t4 := Tryd.underlying4
  a4 := Tryd.isAgg4
  z4 := Tryd.sizeOf4
  v4 := Tryd.zeroValue4
  t5 := Tryd.underlying5
  a5 := Tryd.isAgg5
  z5 := Tryd.sizeOf5
  v5 := Tryd.zeroValue5
  t9 := Tryd.underlying9
  a9 := Tryd.isAgg9
  z9 := Tryd.sizeOf9
  v9 := Tryd.zeroValue9
  t21 := Tryd.underlying21
  a21 := Tryd.isAgg21
  z21 := Tryd.sizeOf21
  v21 := Tryd.zeroValue21
  t31 := Tryd.underlying76
  a31 := Tryd.isAgg76
  z31 := Tryd.sizeOf76
  v31 := Tryd.zeroValue76
  t46 := Tryd.underlying126
  a46 := Tryd.isAgg126
  z46 := Tryd.sizeOf126
  v46 := Tryd.zeroValue126
  t105 := Tryd.underlying127
  a105 := Tryd.isAgg127
  z105 := Tryd.sizeOf127
  v105 := Tryd.zeroValue127
  t119 := Tryd.underlying134
  a119 := Tryd.isAgg134
  z119 := Tryd.sizeOf134
  t138 := Tryd.underlying136
  a138 := Tryd.isAgg136
  z138 := Tryd.sizeOf136
  v138 := Tryd.zeroValue136
  t139 := Tryd.underlying137
  a139 := Tryd.isAgg137
  z139 := Tryd.sizeOf137
  v139 := Tryd.zeroValue137
  g3 := by kernel_rfl
  g4 := by kernel_rfl }
open Go.RowKit Go.Lib in
theorem Tryd.strings_explode_all (s : ByteArray) (n : Int) (w : World) (hn : n < 0) (hs : s.size < 4294967281) (hascii : ∀ (j : Nat) b, s.data.toList[j]? = some b → b.toNat < 128) :
    Calls Tryd.prog 86 #[.string s, .int .i64 n] w fun e w' =>
      e = .returned (.slice (some ⟨(w.iter s s.size).heap.size, 0, none⟩) s.size s.size) ∧ w' = (w.iter s s.size).alloc (.cells ((Lib.charsB s).map Value.string).toArray 9) := Any.strings_explode_all Tryd.lays268 (by kernel_rfl) s n w hn hs hascii
open Go.RowKit Go.Lib in
theorem Tryd.strings_genSplit_chars (s sep : ByteArray) (sv n : Int) (w : World) (h0 : sep.size = 0) (hn : n < 0) (hs : s.size < 4294967281) (hascii : ∀ (j : Nat) b, s.data.toList[j]? = some b → b.toNat < 128) :
    Calls Tryd.prog 72 #[.string s, .string sep, .int .i64 sv, .int .i64 n] w fun e w' =>
      e = .returned (.slice (some ⟨(w.iter s s.size).heap.size, 0, none⟩) s.size s.size) ∧ w' = (w.iter s s.size).alloc (.cells ((Lib.charsB s).map Value.string).toArray 9) := Any.strings_genSplit_chars Tryd.lays221 (by kernel_rfl) s sep sv n w h0 hn hs hascii
open Go.RowKit Go.Lib in
theorem Tryd.strings_Split_chars (s sep : ByteArray) (w : World) (h0 : sep.size = 0) (hs : s.size < 4294967281) (hascii : ∀ (j : Nat) b, s.data.toList[j]? = some b → b.toNat < 128) :
    Calls Tryd.prog 61 #[.string s, .string sep] w fun e w' =>
      e = .returned (.slice (some ⟨(w.iter s s.size).heap.size, 0, none⟩) s.size s.size) ∧ w' = (w.iter s s.size).alloc (.cells ((Lib.charsB s).map Value.string).toArray 9) := Any.strings_Split_chars Tryd.lays146 (by kernel_rfl) s sep w h0 hs hascii
def Tryd.lays260_ren : Go.Shelf.Ren := ⟨fun | 260 => 101 | n => n, fun | 9 => 9 | 21 => 21 | 3 => 3 | 4 => 4 | 5 => 5 | 119 => 134 | 0 => 0 | 46 => 126 | 139 => 137 | 138 => 136 | n => n, fun | 3 => 1 | 4 => 2 | n => n⟩
theorem Tryd.lays260 : Go.Proofs.Lays.n260 Tryd.prog Tryd.lays260_ren := {
  mixed := by kernel_rfl
  f260 := Tryd.func101.trans (congrArg some (by kernel_rfl))
  t0 := Tryd.underlying0
  a0 := Tryd.isAgg0
  z0 := Tryd.sizeOf0
  v0 := Tryd.zeroValue0
  t3 := Tryd.underlying3
  a3 := Tryd.isAgg3
  z3 := Tryd.sizeOf3
  v3 := Tryd.zeroValue3
  t4 := Tryd.underlying4
  a4 := Tryd.isAgg4
  z4 := Tryd.sizeOf4
  v4 := Tryd.zeroValue4
  t5 := Tryd.underlying5
  a5 := Tryd.isAgg5
  z5 := Tryd.sizeOf5
  v5 := Tryd.zeroValue5
  t9 := Tryd.underlying9
  a9 := Tryd.isAgg9
  z9 := Tryd.sizeOf9
  v9 := Tryd.zeroValue9
  t21 := Tryd.underlying21
  a21 := Tryd.isAgg21
  z21 := Tryd.sizeOf21
  v21 := Tryd.zeroValue21
  t46 := Tryd.underlying126
  a46 := Tryd.isAgg126
  z46 := Tryd.sizeOf126
  v46 := Tryd.zeroValue126
  t119 := Tryd.underlying134
  a119 := Tryd.isAgg134
  z119 := Tryd.sizeOf134
  t138 := Tryd.underlying136
  a138 := Tryd.isAgg136
  z138 := Tryd.sizeOf136
  v138 := Tryd.zeroValue136
  t139 := Tryd.underlying137
  a139 := Tryd.isAgg137
  z139 := Tryd.sizeOf137
  v139 := Tryd.zeroValue137
  g3 := by kernel_rfl
  g4 := by kernel_rfl }
open Go.RowKit Go.Lib in
theorem Tryd.utf8_decodeRuneInStringSlow (s : ByteArray) (w : World) (hT : Lib.Utf8Tabs 1 2 w) :
    Calls Tryd.prog 101 #[.string s] w fun e w' => e = .returned (.tuple #[.int .i32 (Lib.decodeGo s).1, .int .i64 (Lib.decodeGo s).2]) ∧ Below w.heap.size w w' := Any.utf8_decodeRuneInStringSlow Tryd.lays260 s w hT
open Go.RowKit Go.Lib in
theorem Tryd.utf8_DecodeRuneInString (s : ByteArray) (w : World) (hT : Lib.Utf8Tabs 1 2 w) :
    Calls Tryd.prog 93 #[.string s] w fun e w' => e = .returned (.tuple #[.int .i32 (Lib.decodeGo s).1, .int .i64 (Lib.decodeGo s).2]) ∧ Below w.heap.size w w' := Any.utf8_DecodeRuneInString Tryd.lays197 s w hT
def Tryd.lays271_ren : Go.Shelf.Ren := ⟨fun | 271 => 95 | 120 => 103 | 197 => 93 | 260 => 101 | n => n, fun | 9 => 9 | 21 => 21 | 3 => 3 | 4 => 4 | 5 => 5 | 105 => 127 | 119 => 134 | 0 => 0 | 46 => 126 | 139 => 137 | 138 => 136 | n => n, fun | 3 => 1 | 4 => 2 | n => n⟩
theorem Tryd.lays271 : Go.Proofs.Lays.n271 Tryd.prog Tryd.lays271_ren := {
  mixed := by kernel_rfl
  f120 := Tryd.func103.trans (congrArg some (by kernel_rfl))
  f197 := Tryd.func93.trans (congrArg some (by kernel_rfl))
  f260 := Tryd.func101.trans (congrArg some (by kernel_rfl))
  f271 := Tryd.func95.trans (congrArg some (by kernel_rfl))
  t0 := Tryd.underlying0
  a0 := Tryd.isAgg0
  z0 := Tryd.sizeOf0
  v0 := Tryd.zeroValue0
  t3 := Tryd.underlying3
  a3 := Tryd.isAgg3
  z3 := Tryd.sizeOf3
  v3 := Tryd.zeroValue3
  t4 := Tryd.underlying4
  a4 := Tryd.isAgg4
  z4 := Tryd.sizeOf4
  v4 := Tryd.zeroValue4
  t5 := Tryd.underlying5
  a5 := Tryd.isAgg5
  z5 := Tryd.sizeOf5
  v5 := Tryd.zeroValue5
  t9 := Tryd.underlying9
  a9 := Tryd.isAgg9
  z9 := Tryd.sizeOf9
  v9 := Tryd.zeroValue9
  t21 := Tryd.underlying21
  a21 := Tryd.isAgg21
  z21 := Tryd.sizeOf21
  v21 := Tryd.zeroValue21
  t46 := Tryd.underlying126
  a46 := Tryd.isAgg126
  z46 := Tryd.sizeOf126
  v46 := Tryd.zeroValue126
  t105 := Tryd.underlying127
  a105 := Tryd.isAgg127
  z105 := Tryd.sizeOf127
  v105 := Tryd.zeroValue127
  t119 := Tryd.underlying134
  a119 := Tryd.isAgg134
  z119 := Tryd.sizeOf134
  t138 := Tryd.underlying136
  a138 := Tryd.isAgg136
  z138 := Tryd.sizeOf136
  v138 := Tryd.zeroValue136
  t139 := Tryd.underlying137
  a139 := Tryd.isAgg137
  z139 := Tryd.sizeOf137
  v139 := Tryd.zeroValue137
  g3 := by kernel_rfl
  g4 := by kernel_rfl }
open Go.RowKit Go.Lib in
theorem Tryd.utf8_DecodeLastRuneInString (s : ByteArray) (w : World) (hs : s.size ≤ 9223372036854775807) (hT : Lib.Utf8Tabs 1 2 w) :
    Calls Tryd.prog 95 #[.string s] w fun e w' => e = .returned (.tuple #[.int .i32 (Lib.decodeLastL s.data.toList).1, .int .i64 (Lib.decodeLastL s.data.toList).2]) ∧ Below w.heap.size w w' := Any.utf8_DecodeLastRuneInString Tryd.lays271 s w hs hT
end Go.Proofs
namespace Go.Proofs.YtlbainbjlibfiaaDoor
open Go.RowKit
namespace Ab
theorem acall2 {P : Program} {f : FuncId} {a b u : Value} {r : A} (hfn : FnOk P f) (hr : ∀ ok w, r.rep ok noNames w u) (h : ∀ w, GlobCell w → Calls P f #[a, b] w fun e w' => e = .returned u ∧ Below w.heap.size w w') : ACall P f [.one (.lit a), .one (.lit b)] r := by
  refine ⟨hfn, fun ok w vs hg hvs => ?_⟩
  obtain ⟨v, t, rfl, hv, v2, t2, rfl, hv2, ht⟩ := hvs
  rw [show t2 = [] from ht, show v = a from hv, show v2 = b from hv2]
  refine (h w hg.2.2).mono ?_
  rintro e w' ⟨rfl, hb⟩
  exact ⟨_, rfl, hb, hr _ _⟩
theorem same_below {e : Ending} {u : Value} {w w' : World} (h : e = .returned u ∧ w' = w) : e = .returned u ∧ Below w.heap.size w w' := ⟨h.1, by rw [h.2]; exact Below.refl _ _⟩
theorem hasPrefix_c (s p : ByteArray) : ACall Tryd.prog 64 [is s, is p] (ib (Lib.hasPrefix s.data.toList p.data.toList)) :=
  acall2 ⟨_, Tryd.func64, rfl, rfl⟩ (fun _ _ => rfl) fun w _ => (Tryd.strings_HasPrefix s p w).mono fun _ _ h => same_below h
theorem contains_c (s p : ByteArray) (hs : s.size < 4294967281) : ACall Tryd.prog 65 [is s, is p] (ib (Lib.contains s.data.toList p.data.toList)) :=
  acall2 ⟨_, Tryd.func65, rfl, rfl⟩ (fun _ _ => rfl) fun w ⟨m, hm⟩ => (Tryd.strings_Contains s p m w hs hm).mono fun _ _ h => same_below h
theorem trimPrefix_c (s p : ByteArray) : ACall Tryd.prog 84 [is s, is p] (is ⟨(Lib.trimPrefix s.data.toList p.data.toList).toArray⟩) :=
  acall2 ⟨_, Tryd.func84, rfl, rfl⟩ (fun _ _ => rfl) fun w _ => (Tryd.strings_TrimPrefix s p w).mono fun _ _ h => same_below h
theorem cut_c (s p : ByteArray) (hs : s.size < 4294967281) : ACall Tryd.prog 51 [is s, is p] (.tup [(false, [.lit (.string ⟨(Lib.cut s.data.toList p.data.toList).1.toArray⟩)]), (false, [.lit (.string ⟨(Lib.cut s.data.toList p.data.toList).2.1.toArray⟩)]), (false, [.lit (.bool (Lib.cut s.data.toList p.data.toList).2.2)])]) :=
  acall2 ⟨_, Tryd.func51, rfl, rfl⟩ (fun _ _ => ⟨_, rfl, _, _, rfl, ⟨_, _, rfl, rfl, rfl⟩, _, _, rfl, ⟨_, _, rfl, rfl, rfl⟩, _, _, rfl, ⟨_, _, rfl, rfl, rfl⟩, rfl⟩) fun w ⟨m, hm⟩ => (Tryd.strings_Cut s p m w hs hm).mono fun _ _ h => ⟨h.1, by obtain ⟨n, hn⟩ := h.2; rw [hn]; exact ⟨rfl, rfl, rfl, Nat.le_refl _, fun _ _ => rfl⟩⟩
theorem split_c (s p : ByteArray) (hs : s.size < 4294967281) (h1 : 1 ≤ p.size) (hc : Lib.countB s p + 1 ≤ maxLen) : ACall Tryd.prog 61 [is s, is p] (.one (.sl .str (Lib.splitB p 0 (Lib.countB s p) s))) := by
  refine ⟨⟨_, Tryd.func61, rfl, rfl⟩, fun ok w vs hg hvs => ?_⟩
  obtain ⟨v, t, rfl, hv, v2, t2, rfl, hv2, ht⟩ := hvs
  rw [show t2 = [] from ht, show v = .string s from hv, show v2 = .string p from hv2]
  obtain ⟨_, _, m, hm⟩ := hg
  refine (Tryd.strings_Split s p m w hs hm h1).mono ?_
  rintro e w' ⟨rfl, rfl⟩
  refine ⟨_, rfl, below_alloc w _, ?_⟩
  have hl := Lib.splitB_all p h1 0 (Lib.countB s p) s rfl
  rw [← hl] at hc ⊢
  refine ⟨_, _, rfl, Nat.le_refl _, hc, fun i hi => ⟨w.heap.size, 0, [.string (Lib.splitB p 0 (Lib.countB s p) s)[i]], rfl, okU0 (.inr ⟨Nat.le_refl _, by decide⟩), by simp, ⟨rfl, fun j hj => ?_⟩, rfl⟩⟩
  obtain rfl : j = 0 := by simp only [Rd.n] at hj; omega
  have hh : (w.alloc (Obj.cells (List.map Value.string (Lib.splitB p 0 (Lib.countB s p) s)).toArray 9)).heap[w.heap.size]? = _ := heap_new w _
  simp only [World.cell?, hh]
  simp [Rd.n, hi]
theorem join_c (xs : List ByteArray) (sep : ByteArray) (hN : xs.length ≤ 140737488355328) (hlen : (Lib.join (xs.map (·.data.toList)) sep.data.toList).length ≤ 140737488355328) : ACall Tryd.prog 44 [.one (.sl .str xs), is sep] (is ⟨(Lib.join (xs.map (·.data.toList)) sep.data.toList).toArray⟩) := by
  refine ⟨⟨_, Tryd.func44, rfl, rfl⟩, fun ok w vs hg hvs => ?_⟩
  obtain ⟨v, t, rfl, ⟨a, cap, rfl, h1, h2, hc⟩, v2, t2, rfl, hv2, ht⟩ := hvs
  rw [show t2 = [] from ht, show v2 = .string sep from hv2]
  by_cases h0 : xs = []
  · subst h0
    refine (Tryd.strings_Join_none a cap sep w).mono ?_
    rintro e w' ⟨rfl, rfl⟩
    exact ⟨_, rfl, Below.refl _ _, rfl⟩
  · have hpos : 0 < xs.length := List.length_pos_iff.2 h0
    obtain ⟨b, off, _, rfl, _, hb, _⟩ := hc 0 hpos
    refine (Tryd.strings_Join b off cap xs sep w (fun j x hj => ?_) hb hN h1 hlen).mono ?_
    · obtain ⟨hjl, rfl⟩ := List.getElem?_eq_some_iff.1 hj
      obtain ⟨b', off', cs, e, _, _, hcell, hr⟩ := hc j hjl
      cases e
      have hr : cs = [.string xs[j]] := hr
      have := hcell.2 0 (by decide)
      rw [hr] at this
      simpa [Rd.n] using this
    · rintro e w' ⟨rfl, hb⟩
      exact ⟨_, rfl, hb, rfl⟩
end Ab
end Go.Proofs.YtlbainbjlibfiaaDoor
namespace Go.Proofs.YtlbainbjlibfiaaDoor
open Go.RowKit
namespace Ab
theorem trimS_c (s p : ByteArray) (hp : p.data.toList.all (fun b => decide (b.toNat < 128)) = true) (hps : p.size < 4294967281) (hs : s.size ≤ 9223372036854775807) : ACall Tryd.prog 68 [is s, is p] (is ⟨(Lib.trimS s.data.toList p.data.toList).toArray⟩) :=
  acall2 ⟨_, Tryd.func68, rfl, rfl⟩ (fun _ _ => rfl) fun w _ => (Any.strings_Trim_laid Tryd.lays160 (by kernel_rfl) s p w hs hps (ascii_of_all hp)).mono fun _ _ h => h
end Ab
end Go.Proofs.YtlbainbjlibfiaaDoor
namespace Go.Proofs.YtlbainbjlibfiaaDoor
open Go.RowKit
namespace Ab
set_option maxRecDepth 100000
abbrev Fld := ByteArray × ByteArray
abbrev rFld : Rd Fld := .st .str .str
theorem app_le {n b : Nat} (h : n ≤ 1000000000) (hb : b ≤ 1000) : n * b ≤ 140737488355328 := Nat.le_trans (Nat.mul_le_mul h hb) (by decide)
theorem map_next {α β : Type} (g : α → β) (d : α) {l : List α} {i : Nat} (h : i < l.length) (b : β) (hb : b = g (l.getD i d)) (c : List β) : c ++ (l.take i).map g ++ [b] = c ++ (l.take (i + 1)).map g := by
  rw [hb, List.append_assoc, ← take_snoc d h, List.map_append]; rfl
theorem drop_getD {α : Type} (l : List α) (d : α) (i : Nat) : (l.drop 1).getD i d = l.getD (i + 1) d := by
  cases l with
  | nil => simp
  | cons a b => rfl
namespace Q
def FldsOk (l : List Fld) : Prop := l.length ≤ 1000 ∧ ∀ f ∈ l, f.1.size ≤ 1000000 ∧ f.2.size ≤ 1000000
def sumF (l : List Fld) : Nat := (l.map fun f => min f.1.size 10000 + min f.2.size 10000).sum
def muchB (l : List Fld) : Bool := decide (61 < l.length) || decide (6000 < sumF l)
theorem sumF_take (l : List Fld) (i : Nat) (h : i < l.length) : sumF (l.take (i + 1)) = sumF (l.take i) + (min (l.getD i (ByteArray.empty, ByteArray.empty)).1.size 10000 + min (l.getD i (ByteArray.empty, ByteArray.empty)).2.size 10000) := by
  rw [List.take_succ_eq_append_getElem h, sumF, List.map_append, List.sum_append, List.getD_eq_getElem?_getD, List.getElem?_eq_getElem h]
  simp [sumF]
theorem sumF_le (l : List Fld) (i : Nat) : sumF (l.take i) ≤ sumF l := by
  conv => rhs; rw [← List.take_append_drop i l, sumF, List.map_append, List.sum_append]
  exact Nat.le_add_right _ _
theorem much_c (l : List Fld) : ACall Tryd.prog 7 [.one (.sl rFld l)] (ib (muchB l)) := by
  refine acall_of (rs := [2]) Tryd.func7 rfl rfl rfl teOk rfl ?_
  refine acode_seq ?_
  refine acode_region ?_
  refine acode_seq ?_
  refine acode_region ?_
  refine acode_seq ?_
  refine acode_seq ?_
  refine acode_region ?_
  intro l2_1
  try simp only [Int.toNat_natCast, dflt_sl, dflt_st, dflt_str, dflt_int, dflt_bool] at l2_1
  refine acode_block ?_
  refine acode_loopP (fun (i : Nat) => i ≤ l.length ∧ i ≤ 61 ∧ sumF (l.take i) ≤ 6000) (fun (i : Nat) => [(3, ii .i64 (sumF (l.take i))), (6, .one (.sl rFld l)), (7, ii .i64 l.length), (8, ii .i64 i)]) (fun (i : Nat) => []) 0 (fun (i : Nat) => l.length - i) 0 (⟨Nat.zero_le _, Nat.zero_le _, Nat.zero_le _⟩) (le_of ⟨rfl, rfl, rfl, rfl⟩ trivial rfl) ?_
  intro i hI0
  obtain ⟨hi, hi2, hn⟩ := hI0
  refine acode_seq ?_
  refine acode_region ?_
  refine acode_seq ?_
  refine acode_cond rfl (fun h9 => ?_) (fun h9 => ?_)
  ·try simp only [decide_eq_true_eq] at h9
   try simp only [Int.toNat_natCast, dflt_sl, dflt_st, dflt_str, dflt_int, dflt_bool] at h9
   have hs := sumF_take l i (by omega)
   refine acode_skip ?_
   refine acode_seq ?_
   refine acode_block ?_
   refine acode_seq ?_
   refine acode_region ?_
   refine And.intro (by first | omega | assumption | decide | (simp only [Int.toNat_natCast, dflt_sl, dflt_st, dflt_str, dflt_int, dflt_bool]; omega) | (simp <;> omega)) ?_
   refine acode_seq ?_
   refine acode_region ?_
   refine And.intro (by first | omega | assumption | decide | (simp only [Int.toNat_natCast, dflt_sl, dflt_st, dflt_str, dflt_int, dflt_bool]; omega) | (simp <;> omega)) ?_
   refine And.intro (by first | omega | assumption | decide | (simp only [Int.toNat_natCast, dflt_sl, dflt_st, dflt_str, dflt_int, dflt_bool]; omega) | (simp <;> omega)) ?_
   refine acode_seq ?_
   refine acode_region ?_
   refine And.intro (fun h => trivial) ?_
   refine And.intro (fun h => ⟨⟨h, trivial⟩, trivial⟩) ?_
   refine And.intro (by first | (intro h; rw [h]; rfl) | (intro h; cases h)) ?_
   refine acode_cond rfl (fun h29 => ?_) (fun h29 => ?_)
   ·try simp only [decide_eq_true_eq, Bool.or_eq_true] at h29
    try simp only [Int.toNat_natCast, dflt_st, dflt_str] at h29
    refine acode_seq ?_
    refine acode_region ?_
    refine acode_ret ?_
    refine ib_eq ?_
    unfold muchB
    have hz := sumF_le l (i + 1)
    rcases h29 with h | h
    (rw [decide_eq_true (show 61 < l.length by omega)]; rfl)
    rw [decide_eq_true (show 6000 < sumF l by omega), Bool.or_true]
   ·try simp only [decide_eq_false_iff_not, Bool.or_eq_false_iff, Int.not_lt] at h29
    try simp only [Int.toNat_natCast, dflt_st, dflt_str] at h29
    refine acode_skip ?_
    refine acode_region ?_
    refine And.intro (by first | omega | assumption | decide | (simp only [Int.toNat_natCast, dflt_sl, dflt_st, dflt_str, dflt_int, dflt_bool]; omega) | (simp <;> omega)) ?_
    exact ⟨i + 1, ⟨by omega, by omega, by omega⟩, by first | omega | (simp <;> omega), le_of ⟨(ii_eq (by (simp only [Int.toNat_natCast, dflt_st, dflt_str]; omega))), rfl, rfl, rfl⟩ trivial rfl⟩
  ·try simp only [decide_eq_false_iff_not, Int.not_lt] at h9
   try simp only [Int.toNat_natCast, dflt_sl, dflt_st, dflt_str, dflt_int, dflt_bool] at h9
   refine acode_exit ?_
   refine acode_seq ?_
   refine acode_region ?_
   refine acode_ret ?_
   refine ib_eq ?_
   have e : i = l.length := by omega
   subst e
   rw [List.take_length] at hn
   unfold muchB
   rw [decide_eq_false (by omega), decide_eq_false (by omega)]
   rfl
theorem drop_cons {l : List UInt8} {i : Nat} (h : i < l.length) : l.drop i = l.getD i 0 :: l.drop (i + 1) := by
  rw [List.drop_eq_getElem_cons h, List.getD_eq_getElem?_getD, List.getElem?_eq_getElem h]; rfl
theorem size_list (s : ByteArray) : s.size = s.data.toList.length := by cases s; rfl
theorem u8_eq {a b : UInt8} (h : (a.toNat : Int) = (b.toNat : Int)) : a = b := UInt8.toNat_inj.1 (by omega)
abbrev ls (s : ByteArray) : List UInt8 := s.data.toList
def bytes (l : List UInt8) : ByteArray := ⟨l.toArray⟩
theorem bytes_list (l : List UInt8) : (bytes l).data.toList = l := by simp [bytes]
theorem bytes_ls (s : ByteArray) : bytes (ls s) = s := by cases s; rfl
def Clean (sep p : List UInt8) : Prop := (∀ r j, j < p.length → Lib.occAt (p ++ sep ++ r) sep j = false) ∧ ∀ j, j ≤ p.length → Lib.occAt p sep j = false
theorem clean_one {c : UInt8} {p : List UInt8} (h : c ∉ p) : Clean [c] p := by
  refine ⟨fun r j hj => ?_, fun j _ => ?_⟩
  · refine Bool.eq_false_iff.2 fun e => ?_
    have := Lib.occAt_head rfl e
    rw [List.append_assoc, List.getElem?_append_left hj] at this
    exact h (List.mem_of_getElem? this)
  · refine Bool.eq_false_iff.2 fun e => ?_
    exact h (List.mem_of_getElem? (Lib.occAt_head rfl e))
theorem join_two (p q : List UInt8) (ps : List (List UInt8)) (sep : List UInt8) : Lib.join (p :: q :: ps) sep = p ++ sep ++ Lib.join (q :: ps) sep := by
  rw [Lib.join_cons, Lib.join_cons]; simp [Lib.joinTail]
theorem split_join {sep : List UInt8} (hs : sep ≠ []) : ∀ ps : List (List UInt8), ps ≠ [] → (∀ p ∈ ps, Clean sep p) → Lib.split (Lib.join ps sep) sep = ps
  | [], h, _ => absurd rfl h
  | [p], _, hc => by
    unfold Lib.split
    rw [Lib.join_one, Lib.count_miss (Lib.index_none (hc p (by simp)).2)]
    rfl
  | p :: q :: ps, _, hc => by
    have hi : Lib.index (Lib.join (p :: q :: ps) sep) sep = p.length := by
      rw [join_two]
      exact Lib.index_first (by simp) (by unfold Lib.occAt; rw [List.append_assoc, List.drop_left]; exact List.isPrefixOf_iff_prefix.2 ⟨_, rfl⟩) ((hc p (by simp)).1 _)
    have hd : (Lib.join (p :: q :: ps) sep).drop (p.length + sep.length) = Lib.join (q :: ps) sep := by
      rw [join_two, ← List.length_append, List.drop_left]
    have ht : (Lib.join (p :: q :: ps) sep).take (p.length + 0) = p := by
      rw [join_two, List.append_assoc, Nat.add_zero, List.take_left]
    have ih := split_join hs (q :: ps) (by simp) fun p hp => hc p (by simp [hp])
    unfold Lib.split at *
    rw [Lib.count_hit hs hi, hd, Nat.add_comm, Lib.splitK, hi, if_neg (by intro e; have := beq_iff_eq.1 e; omega), Int.toNat_natCast, ht, hd, ih]
theorem ints_app (l m : List UInt8) : intsOf (bytes l) ++ intsOf (bytes m) = intsOf (bytes (l ++ m)) := by
  unfold intsOf; rw [bytes_list, bytes_list, bytes_list, List.map_append]
theorem ints_len (l : List UInt8) : (intsOf (bytes l)).length = l.length := by unfold intsOf; rw [bytes_list, List.length_map]
theorem extract_one {s : ByteArray} {i : Nat} (h : i < s.data.toList.length) : s.extract i (i + 1) = bytes [s.data.toList.getD i 0] := by
  apply ByteArray.ext
  apply Array.ext'
  rw [bytes_list, Lib.extract_data, Nat.add_sub_cancel_left, drop_cons h]
  rfl
theorem bytes_app (l m : List UInt8) : bytes (l ++ m) = bytes l ++ bytes m := by
  apply ByteArray.ext; simp [bytes]
theorem ints_add (l m : List UInt8) (t : ByteArray) (h : t = bytes m) : intsOf (bytes l) ++ intsOf t = intsOf (bytes (l ++ m)) := by rw [h, ints_app]
theorem bytes_size (l : List UInt8) : (bytes l).size = l.length := by rw [size_list, bytes_list]
theorem extract_ls (s : ByteArray) (a b : Nat) : (s.extract a b).data.toList = (s.data.toList.drop a).take (b - a) := Lib.extract_data s a b
theorem split_v (s p : ByteArray) (ws : List ByteArray) (hw : Lib.splitB p 0 (Lib.countB s p) s = ws) (hs : s.size ≤ 1000000) (h1 : 1 ≤ p.size) : ACall Tryd.prog 61 [is s, is p] (.one (.sl .str ws)) := by
  subst hw
  exact split_c s p (by omega) h1 (by have := Lib.countB_le p h1 _ s (Nat.le_refl _); unfold maxLen; omega)
theorem split_size (p : ByteArray) : ∀ (k : Nat) (s : ByteArray), ∀ x ∈ Lib.splitB p 0 k s, x.size ≤ s.size
  | 0, s, x, hx => by rw [List.mem_singleton.1 hx]; exact Nat.le_refl _
  | k + 1, s, x, hx => by
    unfold Lib.splitB at hx
    split at hx
    · rw [List.mem_singleton.1 hx]; exact Nat.le_refl _
    · rcases List.mem_cons.1 hx with rfl | hx
      · rw [ByteArray.size_extract]; omega
      · have := split_size p k _ x hx
        rw [ByteArray.size_extract] at this; omega
theorem split_len (p s : ByteArray) (h1 : 1 ≤ p.size) : (Lib.splitB p 0 (Lib.countB s p) s).length ≤ s.size + 1 := by
  rw [Lib.splitB_all p h1 0 _ s rfl]
  have := Lib.countB_le p h1 _ s (Nat.le_refl _); omega
theorem split_ls (p s : ByteArray) : (Lib.splitB p 0 (Lib.countB s p) s).map ls = Lib.split (ls s) (ls p) := Lib.splitB_data p 0 _ s
theorem map_take_succ {α β : Type} (g : α → β) (l : List α) (d : α) (i : Nat) (h : i < l.length) : (l.take (i + 1)).map g = (l.take i).map g ++ [g (l.getD i d)] := by
  rw [← take_snoc d h, List.map_append]; rfl
theorem ls_inj {s : ByteArray} {l : List UInt8} (h : ls s = l) : s = bytes l := by rw [← h, bytes_ls]
theorem occ_one (l : List UInt8) (c : UInt8) (i : Nat) : Lib.occAt l [c] i = true ↔ l[i]? = some c := by
  refine ⟨fun h => Lib.occAt_head rfl h, fun h => ?_⟩
  unfold Lib.occAt
  obtain ⟨hi, e⟩ := List.getElem?_eq_some_iff.1 h
  rw [List.drop_eq_getElem_cons hi, e]
  simp [List.isPrefixOf]
theorem contains_one (l : List UInt8) (c : UInt8) : Lib.contains l [c] = decide (c ∈ l) := by
  unfold Lib.contains
  refine decide_eq_decide.2 ⟨fun h => ?_, fun h => ?_⟩
  · rcases Lib.index_spec l [c] with ⟨e, _⟩ | ⟨i, _, _, h3, _⟩
    · omega
    · exact List.mem_of_getElem? ((occ_one l c i).1 h3)
  · obtain ⟨i, hi, e⟩ := List.getElem_of_mem h
    rcases Lib.index_spec l [c] with ⟨_, h2⟩ | ⟨i, h1, _⟩
    · have := h2 i (Nat.le_of_lt hi)
      rw [(occ_one l c i).2 (by rw [List.getElem?_eq_getElem hi, e])] at this
      cases this
    · omega
def blankC (c : UInt8) : Bool := decide (c = 32) || decide (c = 9)
def blankL (l : List UInt8) : Bool := decide (1 ≤ l.length) && blankC (l.getD 0 0)
def keyOk (l : List UInt8) : Bool := (((((decide (1 ≤ l.length) && decide (l.length ≤ 32)) && !blankC (l.getD 0 0)) && !decide (l.getD 0 0 = 35)) && !decide (58 ∈ l)) && !decide (10 ∈ l))
theorem emp {s : ByteArray} : s = ⟨#[]⟩ ↔ s.data.toList.length = 0 := by
  refine ⟨fun h => by rw [h]; rfl, fun h => ?_⟩
  have := List.eq_nil_of_length_eq_zero h
  rw [← bytes_ls s, show ls s = [] from this]; rfl
theorem hasPrefix_one (l : List UInt8) (c : UInt8) : Lib.hasPrefix l [c] = (decide (1 ≤ l.length) && decide (l.getD 0 0 = c)) := by
  unfold Lib.hasPrefix
  cases l with
  | nil => rfl
  | cons d l =>
    have : (c == d) = decide (d = c) := by rw [Bool.eq_iff_iff, beq_iff_eq, decide_eq_true_iff]; exact eq_comm
    simp [List.isPrefixOf, this]
theorem u8_iff (c d : UInt8) : ((c.toNat : Int) = d.toNat) ↔ c = d := ⟨u8_eq, fun h => by rw [h]⟩
theorem keyOk_prog (l : List UInt8) : keyOk l = (!(((decide (l.length = 0) || decide (32 < l.length)) || blankL l) || Lib.hasPrefix l [35]) && (!Lib.contains l [58] && !Lib.contains l [10])) := by
  rw [contains_one, contains_one, hasPrefix_one]
  unfold keyOk blankL
  by_cases h : 1 ≤ l.length
  · have h0 : ¬ l.length = 0 := by omega
    by_cases h2 : l.length ≤ 32
    · have h3 : ¬ 32 < l.length := by omega
      simp [h, h0, h2, h3, Bool.and_assoc]
    · have h3 : 32 < l.length := by omega
      simp [h2, h3]
  · have h0 : l.length = 0 := by omega
    simp [h0]
theorem blank_c (s : ByteArray) (hs : s.size ≤ 1000000000) : ACall Tryd.prog 63 [is s] (ib (blankL s.data.toList)) := by
  have hz := size_list s
  refine acall_of (rs := [2]) Tryd.func63 rfl rfl rfl teOk rfl ?_
  refine acode_seq ?_
  refine acode_region ?_
  refine acode_seq ?_
  refine acode_region ?_
  refine And.intro (fun h => trivial) ?_
  refine And.intro (fun h => ⟨⟨⟨h, trivial⟩, trivial⟩, by have h9 : ¬ s = ⟨#[]⟩ := (by simpa [gq] using h); rw [emp] at h9; omega⟩) ?_
  refine Or.inl ?_
  refine And.intro (rfl) ?_
  refine Exists.intro _ (And.intro (fun h => ⟨⟨⟨h, trivial⟩, trivial⟩, contains_c _ _ (by decide)⟩) ?_)
  refine And.intro (by exact fun h => h) ?_
  refine acode_ret ?_
  refine ib_eq ?_
  by_cases h : s.data.toList.length = 0
  ·rw [decide_eq_true (emp.2 h), Bool.not_true, Bool.false_and]; unfold blankL; rw [h]; rfl
  ·rw [decide_eq_false (fun e => h (emp.1 e)), show s.extract (Int.toNat 0) (Int.toNat 1) = bytes [s.data.toList.getD 0 0] from extract_one (by omega), bytes_list, contains_one]; unfold blankL blankC; rw [decide_eq_true (show 1 ≤ s.data.toList.length by omega)]; simp
theorem key_c (s : ByteArray) (hs : s.size ≤ 1000000000) : ACall Tryd.prog 48 [is s] (ib (keyOk s.data.toList)) := by
  have hz := size_list s
  refine acall_of (rs := [2]) Tryd.func48 rfl rfl rfl teOk rfl ?_
  refine acode_seq ?_
  refine acode_region ?_
  refine acode_seq ?_
  refine acode_seq ?_
  refine acode_region ?_
  refine And.intro (fun h => trivial) ?_
  refine And.intro (fun h => ⟨⟨h, trivial⟩, trivial⟩) ?_
  refine And.intro (fun h => ⟨⟨h, trivial⟩, trivial⟩) ?_
  refine And.intro (by first | (intro h; rw [h]; rfl) | (intro h; cases h)) ?_
  refine And.intro (fun h => trivial) ?_
  refine Or.inl ?_
  refine And.intro (rfl) ?_
  refine Exists.intro _ (And.intro (fun h => ⟨⟨⟨h, trivial⟩, trivial⟩, blank_c _ hs⟩) ?_)
  refine And.intro (by first | (intro h; rw [h]; rfl) | (intro h; cases h)) ?_
  refine And.intro (fun h => trivial) ?_
  refine Or.inl ?_
  refine And.intro (rfl) ?_
  refine Exists.intro _ (And.intro (fun h => ⟨⟨⟨h, trivial⟩, trivial⟩, hasPrefix_c _ _⟩) ?_)
  refine And.intro (by first | (intro h; rw [h]; rfl) | (intro h; cases h)) ?_
  refine acode_cond rfl (fun h17 => ?_) (fun h17 => ?_)
  ·try simp only [decide_eq_true_eq, Bool.or_eq_true] at h17
   try simp only [Int.toNat_natCast, dflt_sl, dflt_st, dflt_str, dflt_int, dflt_bool] at h17
   refine acode_seq ?_
   refine acode_region ?_
   refine acode_ret ?_
   refine ib_eq ?_
   rw [keyOk_prog]
   rw [emp] at h17
   rcases h17 with ((h | h) | h) | h
   ·simp [h]
   ·rw [decide_eq_true (show 32 < s.data.toList.length by omega)]; simp
   ·simp [h]
   ·simp [h]
  ·try simp only [decide_eq_false_iff_not, Bool.or_eq_false_iff, Int.not_lt] at h17
   try simp only [Int.toNat_natCast, dflt_sl, dflt_st, dflt_str, dflt_int, dflt_bool] at h17
   refine acode_skip ?_
   refine acode_seq ?_
   refine acode_region ?_
   refine Or.inl ?_
   refine And.intro (rfl) ?_
   refine Exists.intro _ (And.intro (contains_c _ _ (by omega)) ?_)
   refine And.intro (fun h => trivial) ?_
   refine Or.inl ?_
   refine And.intro (rfl) ?_
   refine Exists.intro _ (And.intro (fun h => ⟨⟨⟨h, trivial⟩, trivial⟩, contains_c _ _ (by omega)⟩) ?_)
   refine And.intro (fun h => ⟨⟨h, trivial⟩, trivial⟩) ?_
   refine And.intro (by exact fun h => h) ?_
   refine acode_ret ?_
   refine ib_eq ?_
   rw [keyOk_prog]
   rw [emp] at h17
   obtain ⟨⟨⟨h1, h2⟩, h3⟩, h4⟩ := h17
   simp only [h3, h4, decide_eq_false h1, decide_eq_false (show ¬ 32 < s.data.toList.length by omega)]
   rfl
theorem refBlank_c (c : UInt8) (n : Int) (hn : n = c.toNat) : ACall Tryd.prog 66 [ii .u8 n] (ib (blankC c)) := by
  subst hn
  refine acall_of (rs := [2]) Tryd.func66 rfl rfl rfl teOk rfl ?_
  refine acode_seq ?_
  refine acode_region ?_
  refine acode_seq ?_
  refine acode_region ?_
  refine And.intro (fun h => trivial) ?_
  refine And.intro (fun h => ⟨⟨h, trivial⟩, trivial⟩) ?_
  refine And.intro (by first | (intro h; rw [h]; rfl) | (intro h; cases h)) ?_
  refine acode_ret ?_
  refine ib_eq ?_
  unfold blankC
  rw [decide_eq_decide.2 (show (c.toNat : Int) = 32 ↔ c = 32 from u8_iff c 32), decide_eq_decide.2 (show (c.toNat : Int) = 9 ↔ c = 9 from u8_iff c 9)]
theorem notin_snoc {l : List UInt8} {c : UInt8} {i : Nat} (hi : i < l.length) (h : c ∉ l.take i) (hc : l.getD i 0 ≠ c) : c ∉ l.take (i + 1) := by
  rw [← take_snoc 0 hi, List.mem_append, List.mem_singleton]
  exact fun e => e.elim h fun e => hc e.symm
theorem refKey_c (s : ByteArray) (hs : s.size ≤ 1000000000) : ACall Tryd.prog 49 [is s] (ib (keyOk s.data.toList)) := by
  have hz := size_list s
  refine acall_of (rs := [2]) Tryd.func49 rfl rfl rfl teOk rfl ?_
  refine acode_seq ?_
  refine acode_region ?_
  refine acode_seq ?_
  refine acode_seq ?_
  refine acode_region ?_
  refine And.intro (fun h => trivial) ?_
  refine And.intro (fun h => ⟨⟨h, trivial⟩, trivial⟩) ?_
  refine And.intro (fun h => ⟨⟨h, trivial⟩, trivial⟩) ?_
  refine And.intro (by first | (intro h; rw [h]; rfl) | (intro h; cases h)) ?_
  refine And.intro (fun h => trivial) ?_
  refine And.intro (fun h => ⟨⟨⟨h, trivial⟩, trivial⟩, by first | omega | decide | (simp only [Int.toNat_natCast, dflt_sl, dflt_st, dflt_str, dflt_int, dflt_bool]; omega) | (have h9 := of_decide_eq_true h; omega) | (simp [gq] at h; omega)⟩) ?_
  refine Or.inl ?_
  refine And.intro (rfl) ?_
  refine Exists.intro _ (And.intro (fun h => ⟨⟨⟨h, trivial⟩, trivial⟩, refBlank_c (s.data.toList.getD 0 0) _ rfl⟩) ?_)
  refine And.intro (by first | (intro h; rw [h]; rfl) | (intro h; cases h)) ?_
  refine And.intro (fun h => trivial) ?_
  refine And.intro (fun h => ⟨⟨⟨h, trivial⟩, trivial⟩, by first | omega | decide | (simp only [Int.toNat_natCast, dflt_sl, dflt_st, dflt_str, dflt_int, dflt_bool]; omega) | (have h9 := of_decide_eq_true h; omega) | (simp [gq] at h; omega)⟩) ?_
  refine And.intro (fun h => ⟨⟨h, trivial⟩, trivial⟩) ?_
  refine And.intro (by first | (intro h; rw [h]; rfl) | (intro h; cases h)) ?_
  refine acode_cond rfl (fun h21 => ?_) (fun h21 => ?_)
  ·try simp only [decide_eq_true_eq, Bool.or_eq_true] at h21
   try simp only [Int.toNat_natCast, dflt_sl, dflt_st, dflt_str, dflt_int, dflt_bool] at h21
   refine acode_seq ?_
   refine acode_region ?_
   refine acode_ret ?_
   refine ib_eq ?_
   unfold keyOk
   rcases h21 with ((h | h) | h) | h
   ·rw [decide_eq_false (show ¬ 1 ≤ s.data.toList.length by omega)]; simp
   ·rw [decide_eq_false (show ¬ s.data.toList.length ≤ 32 by omega)]; simp
   ·rw [h]; simp
   ·rw [show s.data.toList.getD 0 0 = 35 from u8_eq h]; simp
  ·try simp only [decide_eq_false_iff_not, Bool.or_eq_false_iff, Int.not_lt] at h21
   try simp only [Int.toNat_natCast, dflt_sl, dflt_st, dflt_str, dflt_int, dflt_bool] at h21
   refine acode_skip ?_
   refine acode_seq ?_
   refine acode_seq ?_
   refine acode_region ?_
   refine acode_block ?_
   refine acode_loopP (fun (i : Nat) => i ≤ s.size ∧ 58 ∉ s.data.toList.take i ∧ 10 ∉ s.data.toList.take i) (fun (i : Nat) => [(0, is s), (3, ii .i64 i)]) (fun (i : Nat) => []) 0 (fun (i : Nat) => s.size - i) 0 (⟨Nat.zero_le _, by simp, by simp⟩) (le_of ⟨rfl, rfl⟩ trivial rfl) ?_
   intro i hI0
   obtain ⟨hi, h1, h2⟩ := hI0
   refine acode_seq ?_
   refine acode_seq ?_
   refine acode_region ?_
   refine acode_cond rfl (fun h25 => ?_) (fun h25 => ?_)
   ·try simp only [decide_eq_true_eq] at h25
    try simp only [Int.toNat_natCast, dflt_sl, dflt_st, dflt_str, dflt_int, dflt_bool] at h25
    have hlt : i < s.data.toList.length := by omega
    refine acode_skip ?_
    refine acode_seq ?_
    refine acode_block ?_
    refine acode_seq ?_
    refine acode_region ?_
    refine And.intro (by first | omega | assumption | decide | (simp only [Int.toNat_natCast, dflt_sl, dflt_st, dflt_str, dflt_int, dflt_bool]; omega) | (simp <;> omega)) ?_
    refine And.intro (fun h => trivial) ?_
    refine And.intro (fun h => trivial) ?_
    refine And.intro (fun h => ⟨⟨⟨h, trivial⟩, ⟨h, trivial⟩, trivial⟩, by first | omega | decide | (simp only [Int.toNat_natCast, dflt_sl, dflt_st, dflt_str, dflt_int, dflt_bool]; omega) | (have h9 := of_decide_eq_true h; omega) | (simp [gq] at h; omega)⟩) ?_
    refine And.intro (fun h => ⟨⟨h, trivial⟩, trivial⟩) ?_
    refine And.intro (by first | (intro h; rw [h]; rfl) | (intro h; cases h)) ?_
    refine acode_cond rfl (fun h37 => ?_) (fun h37 => ?_)
    ·try simp only [decide_eq_true_eq, Bool.or_eq_true] at h37
     try simp only [Int.toNat_natCast] at h37
     refine acode_seq ?_
     refine acode_region ?_
     refine acode_ret ?_
     refine ib_eq ?_
     unfold keyOk
     rcases h37 with h | h
     ·rw [decide_eq_true (show 58 ∈ s.data.toList from (show s.data.toList.getD i 0 = 58 from u8_eq h) ▸ getD_mem hlt 0)]; simp
     ·rw [decide_eq_true (show 10 ∈ s.data.toList from (show s.data.toList.getD i 0 = 10 from u8_eq h) ▸ getD_mem hlt 0)]; simp
    ·try simp only [decide_eq_false_iff_not, Bool.or_eq_false_iff] at h37
     try simp only [Int.toNat_natCast] at h37
     have hc1 : s.data.toList.getD i 0 ≠ 58 := fun e => h37.1 (by rw [e]; rfl)
     have hc2 : s.data.toList.getD i 0 ≠ 10 := fun e => h37.2 (by rw [e]; rfl)
     refine acode_skip ?_
     refine acode_region ?_
     refine And.intro (by first | omega | assumption | decide | (simp only [Int.toNat_natCast, dflt_sl, dflt_st, dflt_str, dflt_int, dflt_bool]; omega) | (simp <;> omega)) ?_
     exact ⟨i + 1, ⟨by omega, notin_snoc hlt h1 hc1, notin_snoc hlt h2 hc2⟩, by first | omega | (simp <;> omega), le_of ⟨rfl, rfl⟩ trivial rfl⟩
   ·try simp only [decide_eq_false_iff_not, Int.not_lt] at h25
    try simp only [Int.toNat_natCast, dflt_sl, dflt_st, dflt_str, dflt_int, dflt_bool] at h25
    refine acode_exit ?_
    refine acode_seq ?_
    refine acode_region ?_
    refine acode_ret ?_
    refine ib_eq ?_
    rw [List.take_of_length_le (by omega)] at h1 h2
    unfold keyOk
    obtain ⟨⟨⟨a1, a2⟩, a3⟩, a4⟩ := h21
    rw [a3, decide_eq_false h1, decide_eq_false h2, decide_eq_true (show 1 ≤ s.data.toList.length by omega), decide_eq_true (show s.data.toList.length ≤ 32 by omega), decide_eq_false (fun e : s.data.toList.getD 0 0 = 35 => a4 (by rw [show Int.toNat 0 = 0 from rfl, e]; rfl))]
    rfl
theorem all_take_succ {α : Type} (l : List α) (p : α → Bool) (d : α) (i : Nat) (h : i < l.length) : (l.take (i + 1)).all p = ((l.take i).all p && p (l.getD i d)) := by
  rw [← take_snoc d h, List.all_append]; simp
theorem map_snoc {α β : Type} (f : α → β) {l : List α} {i : Nat} (d : α) (h : i < l.length) : (l.take i).map f ++ [f (l.getD i d)] = (l.take (i + 1)).map f := (map_take_succ f l d i h).symm
theorem split_mem {s sep w : List UInt8} (h : w ∈ Lib.split s sep) : w.length ≤ s.length := by
  have : Lib.split s sep = (Lib.splitB (bytes sep) 0 (Lib.countB (bytes s) (bytes sep)) (bytes s)).map ls := by rw [split_ls]; unfold ls; rw [bytes_list, bytes_list]
  rw [this] at h
  obtain ⟨x, hx, rfl⟩ := List.mem_map.1 h
  have := split_size _ _ _ x hx
  rw [bytes_size, size_list] at this
  exact this
theorem acall_arg {P : Program} {f : FuncId} {xs ys : List A} {r : A} (h : ∀ ok ρ w vs, RepAs ok ρ w xs vs → RepAs ok ρ w ys vs) (hc : ACall P f ys r) : ACall P f xs r :=
  ⟨hc.1, fun ok w vs hg hv => hc.2 ok w vs hg (h _ _ _ _ hv)⟩
theorem sumF_mem {l : List Fld} {f : Fld} (h : f ∈ l) : min f.1.size 10000 + min f.2.size 10000 ≤ sumF l := by
  induction l with
  | nil => cases h
  | cons g l ih =>
    unfold sumF at *
    rw [List.map_cons, List.sum_cons]
    rcases List.mem_cons.1 h with rfl | h
    · omega
    · have := ih h; omega
theorem much_ok {l : List Fld} (h : muchB l = false) : FldsOk l := by
  unfold muchB at h
  simp only [Bool.or_eq_false_iff, decide_eq_false_iff_not] at h
  refine ⟨by omega, fun f hf => ?_⟩
  have := sumF_mem hf
  omega
end Q
end Ab
end Go.Proofs.YtlbainbjlibfiaaDoor
namespace Go.Proofs.YtlbainbjlibfiaaDoor
open Go.RowKit
namespace Ab
namespace Q
theorem dropWhile_nil {α : Type} {p : α → Bool} : ∀ {l : List α}, l.dropWhile p = [] ↔ l.all p = true
  | [] => by simp
  | a :: l => by
    rw [List.dropWhile_cons, List.all_cons]
    cases h : p a
    · simp
    · simp [dropWhile_nil (p := p) (l := l)]
theorem mem_tw {α : Type} {p : α → Bool} {x : α} : ∀ {l : List α}, x ∈ l.takeWhile p → p x = true
  | a :: l, h => by
    rw [List.takeWhile_cons] at h
    split at h
    · rename_i hp
      rcases List.mem_cons.1 h with rfl | h
      · exact hp
      · exact mem_tw h
    · cases h
theorem trim_nil (l : List UInt8) : Lib.trimS l [32, 9] = [] ↔ l.all blankC = true := by
  have hp : (fun c : UInt8 => ([32, 9] : List UInt8).contains c) = blankC := by
    funext c; unfold blankC; simp
  unfold Lib.trimS Lib.trimLeftS Lib.trimRightS
  rw [show (fun x : UInt8 => ([32, 9] : List UInt8).contains x) = blankC from hp, dropWhile_nil]
  refine ⟨fun h => ?_, fun h => ?_⟩
  · refine List.all_eq_true.2 fun x hx => ?_
    by_cases hb : blankC x = true
    · exact hb
    · exfalso
      have h2 : x ∈ (l.reverse.dropWhile blankC) := by
        have hs : l.reverse = l.reverse.takeWhile blankC ++ l.reverse.dropWhile blankC := (List.takeWhile_append_dropWhile).symm
        have hm : x ∈ l.reverse := List.mem_reverse.2 hx
        rw [hs] at hm
        rcases List.mem_append.1 hm with h3 | h3
        · exact absurd (mem_tw h3) hb
        · exact h3
      exact hb (List.all_eq_true.1 h x (List.mem_reverse.2 h2))
  · have : l.reverse.dropWhile blankC = [] := dropWhile_nil.2 (by rw [List.all_reverse]; exact h)
    rw [this]; rfl
def stuffL (s : List UInt8) : List UInt8 := if s.all blankC || Lib.hasPrefix s [46] then 46 :: s else s
def partsL (v : List UInt8) : List (List UInt8) := Lib.split v [10]
def firstL (key : List UInt8) (p : List UInt8) : List UInt8 := key ++ [58] ++ (if p = [] then [] else 32 :: p)
def linesL (key v : List UInt8) : List (List UInt8) := firstL key ((partsL v).headD []) :: ((partsL v).drop 1).map fun s => 32 :: stuffL s
def kindL (l : List UInt8) : Int := if 10 ∈ l then 5 else if l.all blankC = true then 1 else if Lib.hasPrefix l [35] = true then 2 else if blankL l = true then 3
  else if ((Lib.cut l [58]).2.2 && keyOk (Lib.cut l [58]).1) = true then 4 else 5
theorem split_ne (v : List UInt8) (sep : List UInt8) : Lib.split v sep ≠ [] := by
  unfold Lib.split
  cases Lib.count v sep with
  | zero => simp [Lib.splitK]
  | succ k => unfold Lib.splitK; split <;> simp
theorem splitK_one (v : List UInt8) (c : UInt8) : ∀ k, v.length ≤ k → (∀ p ∈ Lib.split v [c], c ∉ p) ∧ Lib.join (Lib.split v [c]) [c] = v := by
  intro k
  induction k generalizing v with
  | zero =>
    intro h
    obtain rfl : v = [] := List.eq_nil_of_length_eq_zero (by omega)
    exact ⟨fun p hp => by
      have : p = [] := by simpa [Lib.split, Lib.count, Lib.countFrom, Lib.index, Lib.splitK] using hp
      rw [this]; simp, by simp [Lib.split, Lib.count, Lib.countFrom, Lib.index, Lib.splitK, Lib.join_one]⟩
  | succ k ih =>
    intro h
    rcases Lib.index_spec v [c] with ⟨hi, hn⟩ | ⟨i, hi, hil, ho, hno⟩
    · have e : Lib.split v [c] = [v] := by unfold Lib.split; rw [Lib.count_miss hi]; rfl
      rw [e]
      refine ⟨fun p hp hc => ?_, Lib.join_one _ _⟩
      rw [List.mem_singleton.1 hp] at hc
      obtain ⟨j, hj, e⟩ := List.getElem_of_mem hc
      have := hn j (Nat.le_of_lt hj)
      rw [(occ_one v c j).2 (by rw [List.getElem?_eq_getElem hj, e])] at this
      cases this
    · have hat := (occ_one v c i).1 ho
      obtain ⟨hlt, hat⟩ := List.getElem?_eq_some_iff.1 hat
      have e : Lib.split v [c] = v.take i :: Lib.split (v.drop (i + 1)) [c] := by
        unfold Lib.split
        rw [Lib.count_hit (by simp) hi, Nat.add_comm, Lib.splitK, hi, if_neg (by intro e; have := beq_iff_eq.1 e; omega), Int.toNat_natCast]
        rfl
      obtain ⟨h1, h2⟩ := ih (v.drop (i + 1)) (by rw [List.length_drop]; omega)
      rw [e]
      refine ⟨fun p hp => ?_, ?_⟩
      · rcases List.mem_cons.1 hp with rfl | hp
        · intro hc
          obtain ⟨j, hj, e⟩ := List.getElem_of_mem hc
          rw [List.length_take] at hj
          have := hno j (by omega)
          rw [(occ_one v c j).2 (by rw [List.getElem?_eq_getElem (by omega)]; rw [List.getElem_take] at e; rw [e])] at this
          cases this
        · exact h1 p hp
      · obtain ⟨q, qs, eq⟩ : ∃ q qs, Lib.split (v.drop (i + 1)) [c] = q :: qs := by
          cases e2 : Lib.split (v.drop (i + 1)) [c] with
          | nil => exact absurd e2 (split_ne _ _)
          | cons q qs => exact ⟨q, qs, rfl⟩
        rw [eq] at h2 ⊢
        rw [join_two, h2, List.append_assoc]
        have := List.take_append_drop i v
        rw [List.drop_eq_getElem_cons hlt, hat] at this
        exact this
theorem parts_no (v : List UInt8) : ∀ p ∈ partsL v, 10 ∉ p := (splitK_one v 10 _ (Nat.le_refl _)).1
theorem parts_join (v : List UInt8) : Lib.join (partsL v) [10] = v := (splitK_one v 10 _ (Nat.le_refl _)).2
theorem cut_at {key r : List UInt8} {c : UInt8} (h : c ∉ key) : Lib.cut (key ++ c :: r) [c] = (key, r, true) := by
  have hi : Lib.index (key ++ c :: r) [c] = key.length := by
    refine Lib.index_first (by simp) ((occ_one _ _ _).2 (by simp)) fun j hj => Bool.eq_false_iff.2 fun e => ?_
    have := (occ_one _ _ _).1 e
    rw [List.getElem?_append_left hj] at this
    exact h (List.mem_of_getElem? this)
  unfold Lib.cut
  rw [hi, if_pos (by omega), Int.toNat_natCast, List.take_left]
  show (key, List.drop (key.length + 1) (key ++ c :: r), true) = _
  rw [← List.drop_drop, List.drop_left]; rfl
theorem keyOk_spec {k : List UInt8} (h : keyOk k = true) : ∃ c r, k = c :: r ∧ blankC c = false ∧ c ≠ 35 ∧ 58 ∉ k ∧ 10 ∉ k ∧ k.length ≤ 32 := by
  unfold keyOk at h
  simp only [Bool.and_eq_true, decide_eq_true_eq, Bool.not_eq_true', decide_eq_false_iff_not] at h
  obtain ⟨⟨⟨⟨⟨h1, h2⟩, h3⟩, h4⟩, h5⟩, h6⟩ := h
  cases k with
  | nil => simp at h1
  | cons c r => exact ⟨c, r, rfl, by simpa using h3, by simpa using h4, h5, h6, h2⟩
theorem first_kind {k p : List UInt8} (hk : keyOk k = true) (hp : 10 ∉ p) : kindL (firstL k p) = 4 ∧ Lib.cut (firstL k p) [58] = (k, (if p = [] then [] else 32 :: p), true) := by
  obtain ⟨c, r, rfl, hb, h35, h58, h10, _⟩ := keyOk_spec hk
  have hc : Lib.cut (firstL (c :: r) p) [58] = (c :: r, (if p = [] then [] else 32 :: p), true) := by
    have : firstL (c :: r) p = (c :: r) ++ 58 :: (if p = [] then [] else 32 :: p) := by unfold firstL; simp
    rw [this, cut_at h58]
  refine ⟨?_, hc⟩
  have hm : 10 ∉ firstL (c :: r) p := by
    unfold firstL
    simp only [List.mem_append, not_or]
    refine ⟨⟨h10, by decide⟩, ?_⟩
    split
    · simp
    · simp only [List.mem_cons, not_or]; exact ⟨by decide, hp⟩
  have hh : firstL (c :: r) p = c :: (r ++ [58] ++ (if p = [] then [] else 32 :: p)) := by unfold firstL; simp
  unfold kindL
  rw [if_neg hm, if_neg (by rw [hh, List.all_cons, hb]; simp), if_neg (by rw [hh, hasPrefix_one]; simp [h35]), if_neg (by rw [hh]; unfold blankL; simp [hb]), hc]
  rw [if_pos (by simp only [Bool.true_and]; exact hk)]
theorem stuff_no {s : List UInt8} (h : 10 ∉ s) : 10 ∉ stuffL s := by
  unfold stuffL; split
  · simp only [List.mem_cons, not_or]; exact ⟨by decide, h⟩
  · exact h
theorem more_kind {s : List UInt8} (h : 10 ∉ s) : kindL (32 :: stuffL s) = 3 := by
  have hm : 10 ∉ (32 :: stuffL s : List UInt8) := by
    simp only [List.mem_cons, not_or]; exact ⟨by decide, stuff_no h⟩
  have hall : (32 :: stuffL s : List UInt8).all blankC = false := by
    rw [List.all_cons]
    unfold stuffL
    split
    · simp [blankC]
    · rename_i h2
      simp only [Bool.or_eq_true, not_or] at h2
      rw [show s.all blankC = false by simpa using h2.1]; simp
  unfold kindL
  rw [if_neg hm, if_neg (by rw [hall]; decide), if_neg (by rw [hasPrefix_one]; simp), if_pos (by unfold blankL; simp [blankC])]
theorem stuff_back (s : List UInt8) : Lib.trimPrefix (stuffL s) [46] = s := by
  unfold stuffL Lib.trimPrefix
  split
  · rename_i h
    rw [if_pos (by rw [hasPrefix_one]; simp)]; rfl
  · rename_i h
    simp only [Bool.or_eq_true, not_or] at h
    rw [if_neg h.2]
theorem first_back {p : List UInt8} : Lib.trimPrefix (if p = [] then [] else 32 :: p) [32] = p := by
  unfold Lib.trimPrefix
  split
  · rename_i h; subst h; rfl
  · rw [if_pos (by rw [hasPrefix_one]; simp)]; rfl
def valueL (l0 : List UInt8) (rest : List (List UInt8)) : List UInt8 := Lib.join (Lib.trimPrefix (Lib.cut l0 [58]).2.1 [32] :: rest.map fun s => Lib.trimPrefix (s.drop 1) [46]) [10]
def unfoldL : List (List UInt8) → (List UInt8 × List UInt8) × Int
  | [] => (([], []), 2)
  | l0 :: rest => if kindL l0 ≠ 4 ∨ (rest.any fun s => !decide (kindL s = 3)) = true then (([], []), 2) else if 1000 < (valueL l0 rest).length then (([], []), 6) else (((Lib.cut l0 [58]).1, valueL l0 rest), 0)
theorem unfold_lines {k v : List UInt8} (hk : keyOk k = true) (hv : v.length ≤ 1000) : unfoldL (linesL k v) = ((k, v), 0) := by
  have hno := parts_no v
  obtain ⟨p, ps, e⟩ : ∃ p ps, partsL v = p :: ps := by
    cases h : partsL v with
    | nil => exact absurd h (split_ne v [10])
    | cons p ps => exact ⟨p, ps, rfl⟩
  have hj := parts_join v
  rw [e] at hno hj
  obtain ⟨h1, h2⟩ := first_kind hk (hno p (by simp))
  unfold linesL
  rw [e]
  show unfoldL (firstL k p :: ps.map fun s => 32 :: stuffL s) = _
  have hany : ((ps.map fun s => 32 :: stuffL s).any fun s => !decide (kindL s = 3)) = false := by
    rw [List.any_eq_false]
    intro s hs
    obtain ⟨q, hq, rfl⟩ := List.mem_map.1 hs
    rw [more_kind (hno q (by simp [hq]))]; simp
  have hval : valueL (firstL k p) (ps.map fun s => 32 :: stuffL s) = v := by
    unfold valueL
    rw [h2]
    show Lib.join (Lib.trimPrefix (if p = [] then [] else 32 :: p) [32] :: _) _ = v
    rw [first_back, List.map_map]
    have : (ps.map ((fun s => Lib.trimPrefix (s.drop 1) [46]) ∘ fun s => 32 :: stuffL s)) = ps := by
      conv => rhs; rw [← List.map_id ps]
      exact List.map_congr_left fun s _ => stuff_back s
    rw [this, hj]
  show (if kindL (firstL k p) ≠ 4 ∨ ((ps.map fun s => 32 :: stuffL s).any fun s => !decide (kindL s = 3)) = true then ((([] : List UInt8), ([] : List UInt8)), (2 : Int)) else if 1000 < (valueL (firstL k p) (ps.map fun s => 32 :: stuffL s)).length then (([], []), 6) else (((Lib.cut (firstL k p) [58]).1, valueL (firstL k p) (ps.map fun s => 32 :: stuffL s)), 0)) = _
  rw [if_neg (by rw [hany]; simp [h1]), hval, if_neg (by omega), h2]
end Q
end Ab
end Go.Proofs.YtlbainbjlibfiaaDoor
namespace Go.Proofs.YtlbainbjlibfiaaDoor
open Go.RowKit
namespace Ab
set_option maxRecDepth 100000
namespace Q
def checkF (f : Fld) : Int := if keyOk f.1.data.toList = true then (if 1000 < f.2.size then 6 else 0) else 5
def errN (n : Int) : C := .lit (.iface 67 (.int .i64 n))
def errA (n : Int) : C := if n = 0 then .lit .nilIface else errN n
theorem errA_eq {n m : Int} (h : n = m) : A.one (errA n) = A.one (errA m) := by rw [h]
theorem check_c (f : Fld) (hk : f.1.size ≤ 1000000000) : ACall Tryd.prog 39 [.agg (toL rFld f)] (.one (errA (checkF f))) := by
  refine acall_of (rs := [2]) Tryd.func39 rfl rfl rfl teOk rfl ?_
  refine acode_seq ?_
  refine acode_region ?_
  refine acode_seq ?_
  refine acode_block ?_
  refine acode_seq ?_
  refine acode_region ?_
  refine Or.inl ?_
  refine And.intro (rfl) ?_
  refine Exists.intro _ (And.intro (key_c _ hk) ?_)
  refine acode_cond rfl (fun h3 => ?_) (fun h3 => ?_)
  ·try simp only [Bool.not_eq_true'] at h3
   try simp only [Int.toNat_natCast, dflt_sl, dflt_st, dflt_str, dflt_int, dflt_bool] at h3
   refine acode_seq ?_
   refine acode_region ?_
   refine acode_ret ?_
   exact errA_eq (n := 5) (by unfold checkF; rw [if_neg (by rw [h3]; decide)])
  ·try simp only [Bool.not_eq_false'] at h3
   try simp only [Int.toNat_natCast, dflt_sl, dflt_st, dflt_str, dflt_int, dflt_bool] at h3
   refine acode_seq ?_
   refine acode_region ?_
   refine acode_cond rfl (fun h9 => ?_) (fun h9 => ?_)
   ·try simp only [decide_eq_true_eq] at h9
    try simp only [Int.toNat_natCast, dflt_sl, dflt_st, dflt_str, dflt_int, dflt_bool] at h9
    refine acode_seq ?_
    refine acode_region ?_
    refine acode_ret ?_
    exact errA_eq (n := 6) (by unfold checkF; rw [if_pos h3, if_pos (by omega)])
   ·try simp only [decide_eq_false_iff_not, Int.not_lt] at h9
    try simp only [Int.toNat_natCast, dflt_sl, dflt_st, dflt_str, dflt_int, dflt_bool] at h9
    refine acode_skip ?_
    refine acode_seq ?_
    refine acode_region ?_
    refine acode_ret ?_
    exact errA_eq (n := 0) (by unfold checkF; rw [if_pos h3, if_neg (by omega)])
theorem check_cases (f : Fld) : checkF f = 5 ∨ checkF f = 6 ∨ checkF f = 0 := by
  unfold checkF; split <;> (try split) <;> simp
theorem check_v (f : Fld) (n : Int) (hk : f.1.size ≤ 1000000000) (h : checkF f = n) : ACall Tryd.prog 39 [.agg (toL rFld f)] (.one (errA n)) := by
  subst h; exact check_c f hk
theorem stuffed_c (s : ByteArray) (hs : s.size ≤ 1000000) : ACall Tryd.prog 62 [is s] (is (bytes (stuffL s.data.toList))) := by
  have hz := size_list s
  have he : (⟨(Lib.trimS s.data.toList [32, 9]).toArray⟩ : ByteArray) = ⟨#[]⟩ ↔ s.data.toList.all blankC = true := by
    rw [emp, ← trim_nil]
    show (bytes (Lib.trimS s.data.toList [32, 9])).data.toList.length = 0 ↔ _
    rw [bytes_list]; exact ⟨List.eq_nil_of_length_eq_zero, fun h => by rw [h]; rfl⟩
  refine acall_of (rs := [2]) Tryd.func62 rfl rfl rfl teOk rfl ?_
  refine acode_seq ?_
  refine acode_region ?_
  refine acode_seq ?_
  refine acode_seq ?_
  refine acode_region ?_
  refine Or.inl ?_
  refine And.intro (rfl) ?_
  refine Exists.intro _ (And.intro (trimS_c _ _ (by decide) (by decide) (by omega)) ?_)
  refine And.intro (fun h => trivial) ?_
  refine Or.inl ?_
  refine And.intro (rfl) ?_
  refine Exists.intro _ (And.intro (fun h => ⟨⟨⟨h, trivial⟩, trivial⟩, hasPrefix_c _ _⟩) ?_)
  refine And.intro (by first | (intro h; rw [h]; rfl) | (intro h; cases h)) ?_
  refine acode_cond rfl (fun h9 => ?_) (fun h9 => ?_)
  ·try simp only [decide_eq_true_eq, Bool.or_eq_true] at h9
   try simp only [Int.toNat_natCast, dflt_sl, dflt_st, dflt_str, dflt_int, dflt_bool] at h9
   have hq : (s.data.toList.all blankC || Lib.hasPrefix s.data.toList [46]) = true := by rw [Bool.or_eq_true]; exact h9.imp he.1 id
   refine acode_seq ?_
   refine acode_region ?_
   refine And.intro (by (have hk0 : ByteArray.size { data := #[46] } = 1 := rfl; first | (unfold maxLen; omega) | (simp only [ByteArray.size_append]; omega) | (unfold maxLen; (try simp only [ByteArray.size_append]); omega))) ?_
   refine acode_ret ?_
   refine is_eq ?_
   unfold stuffL
   rw [if_pos hq, show (46 :: s.data.toList) = [46] ++ s.data.toList from rfl, bytes_app, show bytes s.data.toList = s from bytes_ls s]
   rfl
  ·try simp only [decide_eq_false_iff_not, Bool.or_eq_false_iff] at h9
   try simp only [Int.toNat_natCast, dflt_sl, dflt_st, dflt_str, dflt_int, dflt_bool] at h9
   have hq : ¬ (s.data.toList.all blankC || Lib.hasPrefix s.data.toList [46]) = true := by rw [Bool.or_eq_true]; exact fun e => e.elim (fun e => h9.1 (he.2 e)) (fun e => by rw [h9.2] at e; cases e)
   refine acode_skip ?_
   refine acode_seq ?_
   refine acode_region ?_
   refine acode_ret ?_
   refine is_eq ?_
   unfold stuffL
   rw [if_neg hq]
   exact (bytes_ls s).symm
theorem cut_v (s p : ByteArray) (l : List UInt8) (c : List UInt8 × List UInt8 × Bool) (hl : p.data.toList = l) (hc : Lib.cut s.data.toList l = c) (hs : s.size < 4294967281) : ACall Tryd.prog 51 [is s, is p] (.tup [(false, [.lit (.string (bytes c.1))]), (false, [.lit (.string (bytes c.2.1))]), (false, [.lit (.bool c.2.2)])]) := by
  subst hl hc; exact cut_c s p hs
theorem cut_len (l sep : List UInt8) : (Lib.cut l sep).1.length ≤ l.length ∧ (Lib.cut l sep).2.1.length ≤ l.length := by
  unfold Lib.cut
  split
  · simp only [List.length_take, List.length_drop]; omega
  · exact ⟨Nat.le_refl _, Nat.zero_le _⟩
theorem kind_c (s : ByteArray) (hs : s.size ≤ 1000000000) : ACall Tryd.prog 52 [is s] (ii .i64 (kindL s.data.toList)) := by
  have hz := size_list s
  obtain ⟨c, hc⟩ : ∃ c, Lib.cut s.data.toList [58] = c := ⟨_, rfl⟩
  have hcl : (bytes c.1).size ≤ 1000000000 := by rw [bytes_size, ← hc]; have := (cut_len s.data.toList [58]).1; omega
  have he : (⟨(Lib.trimS s.data.toList [32, 9]).toArray⟩ : ByteArray) = ⟨#[]⟩ ↔ s.data.toList.all blankC = true := by
    rw [emp, ← trim_nil]
    show (bytes (Lib.trimS s.data.toList [32, 9])).data.toList.length = 0 ↔ _
    rw [bytes_list]; exact ⟨List.eq_nil_of_length_eq_zero, fun h => by rw [h]; rfl⟩
  have hcon : Lib.contains s.data.toList [10] = decide (10 ∈ s.data.toList) := contains_one _ _
  refine acall_of (rs := [2]) Tryd.func52 rfl rfl rfl teOk rfl ?_
  refine acode_seq ?_
  refine acode_region ?_
  refine acode_seq ?_
  refine acode_block ?_
  refine acode_seq ?_
  refine acode_region ?_
  refine Or.inl ?_
  refine And.intro (rfl) ?_
  refine Exists.intro _ (And.intro (contains_c _ _ (by omega)) ?_)
  refine acode_cond rfl (fun h6 => ?_) (fun h6 => ?_)
  ·skip
   have hm : 10 ∈ s.data.toList := of_decide_eq_true (hcon ▸ h6)
   refine acode_seq ?_
   refine acode_region ?_
   refine acode_ret ?_
   refine ii_eq ?_
   unfold kindL
   rw [if_pos hm]
  ·skip
   have hm : 10 ∉ s.data.toList := of_decide_eq_false (hcon ▸ h6)
   refine acode_seq ?_
   refine acode_region ?_
   refine Or.inl ?_
   refine And.intro (rfl) ?_
   refine Exists.intro _ (And.intro (trimS_c _ _ (by decide) (by decide) (by omega)) ?_)
   refine acode_cond rfl (fun h9 => ?_) (fun h9 => ?_)
   ·try simp only [decide_eq_true_eq] at h9
    try simp only [Int.toNat_natCast, dflt_sl, dflt_st, dflt_str, dflt_int, dflt_bool] at h9
    rw [he] at h9
    refine acode_seq ?_
    refine acode_region ?_
    refine acode_ret ?_
    refine ii_eq ?_
    unfold kindL
    rw [if_neg hm, if_pos h9]
   ·try simp only [decide_eq_false_iff_not] at h9
    try simp only [Int.toNat_natCast, dflt_sl, dflt_st, dflt_str, dflt_int, dflt_bool] at h9
    rw [he] at h9
    refine acode_seq ?_
    refine acode_region ?_
    refine Or.inl ?_
    refine And.intro (rfl) ?_
    refine Exists.intro _ (And.intro (hasPrefix_c _ _) ?_)
    refine acode_cond rfl (fun h13 => ?_) (fun h13 => ?_)
    ·skip
     refine acode_seq ?_
     refine acode_region ?_
     refine acode_ret ?_
     refine ii_eq ?_
     unfold kindL
     rw [if_neg hm, if_neg h9, if_pos h13]
    ·skip
     refine acode_seq ?_
     refine acode_region ?_
     refine Or.inl ?_
     refine And.intro (rfl) ?_
     refine Exists.intro _ (And.intro (blank_c _ hs) ?_)
     refine acode_cond rfl (fun h16 => ?_) (fun h16 => ?_)
     ·try simp only [decide_eq_true_eq, decide_eq_false_iff_not, Bool.and_eq_true, Bool.not_eq_true', Bool.not_eq_false', Bool.or_eq_false_iff, Bool.or_eq_true, Bool.and_eq_false_iff, Int.not_lt, Int.not_le] at h16
      try simp only [Int.toNat_natCast, dflt_sl, dflt_st, dflt_str, dflt_int, dflt_bool] at h16
      refine acode_seq ?_
      refine acode_region ?_
      refine acode_ret ?_
      refine ii_eq ?_
      unfold kindL
      rw [if_neg hm, if_neg h9, if_neg (by rw [Bool.not_eq_true]; exact h13), if_pos h16]
     ·try simp only [decide_eq_true_eq, decide_eq_false_iff_not, Bool.and_eq_true, Bool.not_eq_true', Bool.not_eq_false', Bool.or_eq_false_iff, Bool.or_eq_true, Bool.and_eq_false_iff, Int.not_lt, Int.not_le] at h16
      try simp only [Int.toNat_natCast, dflt_sl, dflt_st, dflt_str, dflt_int, dflt_bool] at h16
      refine acode_skip ?_
      refine acode_seq ?_
      refine acode_seq ?_
      refine acode_region ?_
      refine Or.inl ?_
      refine And.intro (rfl) ?_
      refine Exists.intro _ (And.intro (cut_v _ _ [58] c rfl hc (by omega)) ?_)
      refine acode_seq ?_
      refine acode_region ?_
      refine And.intro (fun h => trivial) ?_
      refine Or.inl ?_
      refine And.intro (rfl) ?_
      refine Exists.intro _ (And.intro (fun h => ⟨⟨⟨h, trivial⟩, trivial⟩, key_c _ hcl⟩) ?_)
      refine And.intro (by exact fun h => h) ?_
      refine acode_cond rfl (fun h29 => ?_) (fun h29 => ?_)
      ·try simp only [Bool.and_eq_true] at h29
       try simp only [Int.toNat_natCast, dflt_sl, dflt_st, dflt_str, dflt_int, dflt_bool] at h29
       refine acode_seq ?_
       refine acode_region ?_
       refine acode_ret ?_
       refine ii_eq ?_
       unfold kindL
       rw [if_neg hm, if_neg h9, if_neg (by rw [Bool.not_eq_true]; exact h13), if_neg (by rw [Bool.not_eq_true]; exact h16), hc, if_pos (by rw [Bool.and_eq_true]; rw [bytes_list] at h29; exact h29)]
      ·try simp only [Bool.and_eq_false_iff] at h29
       try simp only [Int.toNat_natCast, dflt_sl, dflt_st, dflt_str, dflt_int, dflt_bool] at h29
       refine acode_skip ?_
       refine acode_seq ?_
       refine acode_region ?_
       refine acode_ret ?_
       refine ii_eq ?_
       unfold kindL
       rw [if_neg hm, if_neg h9, if_neg (by rw [Bool.not_eq_true]; exact h13), if_neg (by rw [Bool.not_eq_true]; exact h16), hc, if_neg (by rw [Bool.not_eq_true, Bool.and_eq_false_iff]; rw [bytes_list] at h29; exact h29)]
def cutL (l : List UInt8) : List UInt8 × List UInt8 × Bool := if kindL l = 4 then Lib.cut l [58] else ([], [], false)
def cutA (c : List UInt8 × List UInt8 × Bool) : A := .tup [(false, [.lit (.string (bytes c.1))]), (false, [.lit (.string (bytes c.2.1))]), (false, [.lit (.bool c.2.2)])]
theorem cutA_eq {c c' : List UInt8 × List UInt8 × Bool} (h : c = c') : cutA c = cutA c' := by rw [h]
theorem lcut_c (s : ByteArray) (hs : s.size ≤ 1000000000) : ACall Tryd.prog 83 [is s] (cutA (cutL s.data.toList)) := by
  refine acall_of (rs := [2, 3, 4]) Tryd.func83 rfl rfl rfl teOk rfl ?_
  refine acode_seq ?_
  refine acode_region ?_
  refine acode_seq ?_
  refine acode_seq ?_
  refine acode_region ?_
  refine Or.inl ?_
  refine And.intro (rfl) ?_
  refine Exists.intro _ (And.intro (kind_c s hs) ?_)
  refine acode_cond rfl (fun h7 => ?_) (fun h7 => ?_)
  ·try simp only [decide_eq_false_iff_not, Bool.not_eq_true'] at h7
   try simp only [Int.toNat_natCast, dflt_sl, dflt_st, dflt_str, dflt_int, dflt_bool] at h7
   refine acode_seq ?_
   refine acode_region ?_
   refine acode_ret ?_
   exact cutA_eq (c := ([], [], false)) (by unfold cutL; rw [if_neg h7])
  ·try simp only [decide_eq_true_eq, Bool.not_eq_false'] at h7
   try simp only [Int.toNat_natCast, dflt_sl, dflt_st, dflt_str, dflt_int, dflt_bool] at h7
   refine acode_skip ?_
   refine acode_seq ?_
   refine acode_region ?_
   refine Or.inl ?_
   refine And.intro (rfl) ?_
   refine Exists.intro _ (And.intro (cut_v _ _ [58] _ rfl rfl (by omega)) ?_)
   refine acode_ret ?_
   exact cutA_eq (c := Lib.cut s.data.toList [58]) (by unfold cutL; rw [if_pos h7])
end Q
end Ab
end Go.Proofs.YtlbainbjlibfiaaDoor
namespace Go.Proofs.YtlbainbjlibfiaaDoor
open Go.RowKit
namespace Ab
set_option maxRecDepth 100000
namespace Q
theorem refCheck_c (f : Fld) (hk : f.1.size ≤ 1000000000) : ACall Tryd.prog 40 [.agg (toL rFld f)] (ii .i64 (checkF f)) := by
  refine acall_of (rs := [2]) Tryd.func40 rfl rfl rfl teOk rfl ?_
  refine acode_seq ?_
  refine acode_region ?_
  refine acode_seq ?_
  refine acode_seq ?_
  refine acode_region ?_
  refine Or.inl ?_
  refine And.intro (rfl) ?_
  refine Exists.intro _ (And.intro (refKey_c _ hk) ?_)
  refine acode_cond rfl (fun h6 => ?_) (fun h6 => ?_)
  ·try simp only [Bool.not_eq_true'] at h6
   try simp only [Int.toNat_natCast, dflt_sl, dflt_st, dflt_str, dflt_int, dflt_bool] at h6
   refine acode_seq ?_
   refine acode_region ?_
   refine acode_ret ?_
   refine ii_eq ?_
   unfold checkF
   rw [if_neg (by rw [h6]; decide)]
  ·try simp only [Bool.not_eq_false'] at h6
   try simp only [Int.toNat_natCast, dflt_sl, dflt_st, dflt_str, dflt_int, dflt_bool] at h6
   refine acode_skip ?_
   refine acode_seq ?_
   refine acode_seq ?_
   refine acode_region ?_
   refine acode_cond rfl (fun h10 => ?_) (fun h10 => ?_)
   ·try simp only [decide_eq_true_eq] at h10
    try simp only [Int.toNat_natCast, dflt_sl, dflt_st, dflt_str, dflt_int, dflt_bool] at h10
    refine acode_seq ?_
    refine acode_region ?_
    refine acode_ret ?_
    refine ii_eq ?_
    unfold checkF
    rw [if_pos h6, if_pos (by omega)]
   ·try simp only [decide_eq_false_iff_not, Int.not_lt] at h10
    try simp only [Int.toNat_natCast, dflt_sl, dflt_st, dflt_str, dflt_int, dflt_bool] at h10
    refine acode_skip ?_
    refine acode_seq ?_
    refine acode_region ?_
    refine acode_ret ?_
    refine ii_eq ?_
    unfold checkF
    rw [if_pos h6, if_neg (by omega)]
def refCutL (l : List UInt8) : List UInt8 × List UInt8 × Bool := if 10 ∈ l then ([], [], false) else if ((Lib.cut l [58]).2.2 && keyOk (Lib.cut l [58]).1) = true then Lib.cut l [58] else ([], [], false)
theorem cut_first {l : List UInt8} {c : UInt8} {i : Nat} (hi : i < l.length) (hc : l.getD i 0 = c) (hn : c ∉ l.take i) : Lib.cut l [c] = (l.take i, l.drop (i + 1), true) := by
  have : l = l.take i ++ c :: l.drop (i + 1) := by
    conv => lhs; rw [← List.take_append_drop i l, drop_cons hi, hc]
  conv => lhs; rw [this]
  exact cut_at hn
theorem cut_none {l : List UInt8} {c : UInt8} (h : c ∉ l) : Lib.cut l [c] = (l, [], false) := by
  have hi : Lib.index l [c] = -1 := Lib.index_none fun j _ => Bool.eq_false_iff.2 fun e => h (List.mem_of_getElem? ((occ_one _ _ _).1 e))
  unfold Lib.cut
  rw [hi, if_neg (by omega)]
theorem refKey_v (s : ByteArray) (l : List UInt8) (hl : s.data.toList = l) (hs : l.length ≤ 1000000000) : ACall Tryd.prog 49 [is s] (ib (keyOk l)) := by
  subst hl; exact refKey_c s (by rw [size_list]; exact hs)
theorem tup3_eq {a a' b b' : ByteArray} {c : Bool} (h1 : a = a') (h2 : b = b') : A.tup [(false, [.lit (.string a)]), (false, [.lit (.string b)]), (false, [.lit (.bool c)])] = A.tup [(false, [.lit (.string a')]), (false, [.lit (.string b')]), (false, [.lit (.bool c)])] := by rw [h1, h2]
theorem refCut_c (s : ByteArray) (hs : s.size ≤ 1000000000) : ACall Tryd.prog 71 [is s] (cutA (refCutL s.data.toList)) := by
  have hz := size_list s
  refine acall_of (rs := [2, 3, 4]) Tryd.func71 rfl rfl rfl teOk rfl ?_
  refine acode_seq ?_
  refine acode_region ?_
  refine acode_seq ?_
  refine acode_seq ?_
  refine acode_region ?_
  refine acode_block ?_
  refine acode_loopP (fun (i : Nat) => i ≤ s.size ∧ 10 ∉ s.data.toList.take i) (fun (i : Nat) => [(0, is s), (5, ii .i64 i)]) (fun (i : Nat) => []) 0 (fun (i : Nat) => s.size - i) 0 (⟨Nat.zero_le _, by simp⟩) (le_of ⟨rfl, rfl⟩ trivial rfl) ?_
  intro i hI0
  obtain ⟨hi, h1⟩ := hI0
  refine acode_seq ?_
  refine acode_seq ?_
  refine acode_region ?_
  refine acode_cond rfl (fun h10 => ?_) (fun h10 => ?_)
  ·try simp only [decide_eq_true_eq] at h10
   try simp only [Int.toNat_natCast, dflt_sl, dflt_st, dflt_str, dflt_int, dflt_bool] at h10
   have hlt : i < s.data.toList.length := by omega
   refine acode_skip ?_
   refine acode_seq ?_
   refine acode_block ?_
   refine acode_seq ?_
   refine acode_region ?_
   refine And.intro (by first | omega | assumption | decide | (simp only [Int.toNat_natCast, dflt_sl, dflt_st, dflt_str, dflt_int, dflt_bool]; omega) | (simp <;> omega)) ?_
   refine acode_cond rfl (fun h16 => ?_) (fun h16 => ?_)
   ·try simp only [decide_eq_true_eq] at h16
    try simp only [Int.toNat_natCast] at h16
    have hm : 10 ∈ s.data.toList := (show s.data.toList.getD i 0 = 10 from u8_eq h16) ▸ getD_mem hlt 0
    refine acode_seq ?_
    refine acode_region ?_
    refine acode_ret ?_
    exact cutA_eq (c := ([], [], false)) (by unfold refCutL; rw [if_pos hm])
   ·try simp only [decide_eq_false_iff_not] at h16
    try simp only [Int.toNat_natCast] at h16
    have hne : s.data.toList.getD i 0 ≠ 10 := fun e => h16 (by rw [e]; rfl)
    refine acode_skip ?_
    refine acode_region ?_
    refine And.intro (by first | omega | assumption | decide | (simp only [Int.toNat_natCast, dflt_sl, dflt_st, dflt_str, dflt_int, dflt_bool]; omega) | (simp <;> omega)) ?_
    exact ⟨i + 1, ⟨by omega, notin_snoc hlt h1 hne⟩, by first | omega | (simp <;> omega), le_of ⟨rfl, (ii_eq (by omega))⟩ trivial rfl⟩
  ·try simp only [decide_eq_false_iff_not, Int.not_lt] at h10
   try simp only [Int.toNat_natCast, dflt_sl, dflt_st, dflt_str, dflt_int, dflt_bool] at h10
   rw [List.take_of_length_le (by omega)] at h1
   refine acode_exit ?_
   refine acode_seq ?_
   refine acode_seq ?_
   refine acode_region ?_
   refine acode_block ?_
   refine acode_loopP (fun (k : Nat) => k ≤ s.size ∧ 58 ∉ s.data.toList.take k) (fun (k : Nat) => [(0, is s), (6, ii .i64 k)]) (fun (k : Nat) => []) 0 (fun (k : Nat) => s.size - k) 0 (⟨Nat.zero_le _, by simp⟩) (le_of ⟨rfl, rfl⟩ trivial rfl) ?_
   intro k hI2
   obtain ⟨hk, h2⟩ := hI2
   refine acode_seq ?_
   refine acode_seq ?_
   refine acode_region ?_
   refine acode_cond rfl (fun h20 => ?_) (fun h20 => ?_)
   ·try simp only [decide_eq_true_eq] at h20
    try simp only [Int.toNat_natCast, dflt_sl, dflt_st, dflt_str, dflt_int, dflt_bool] at h20
    have hlt2 : k < s.data.toList.length := by omega
    refine acode_skip ?_
    refine acode_seq ?_
    refine acode_block ?_
    refine acode_seq ?_
    refine acode_region ?_
    refine And.intro (by first | omega | assumption | decide | (simp only [Int.toNat_natCast, dflt_sl, dflt_st, dflt_str, dflt_int, dflt_bool]; omega) | (simp <;> omega)) ?_
    refine acode_cond rfl (fun h26 => ?_) (fun h26 => ?_)
    ·try simp only [decide_eq_true_eq] at h26
     try simp only [Int.toNat_natCast] at h26
     have hcut := cut_first hlt2 (show s.data.toList.getD k 0 = 58 from u8_eq h26) h2
     refine acode_seq ?_
     refine acode_seq ?_
     refine acode_region ?_
     refine And.intro (by first | omega | assumption | decide | (simp only [Int.toNat_natCast, dflt_sl, dflt_st, dflt_str, dflt_int, dflt_bool]; omega) | (simp <;> omega)) ?_
     refine Or.inl ?_
     refine And.intro (rfl) ?_
     refine Exists.intro _ (And.intro (refKey_v _ (s.data.toList.take k) (by rw [extract_ls, Int.toNat_natCast]; simp) (by rw [List.length_take]; omega)) ?_)
     refine acode_cond rfl (fun h31 => ?_) (fun h31 => ?_)
     ·try simp only [Bool.not_eq_true'] at h31
      try simp only [Int.toNat_natCast, dflt_sl, dflt_st, dflt_str, dflt_int, dflt_bool] at h31
      refine acode_seq ?_
      refine acode_region ?_
      refine acode_ret ?_
      exact cutA_eq (c := ([], [], false)) (by unfold refCutL; rw [if_neg h1, hcut, if_neg (by simp only [Bool.true_and]; rw [h31]; decide)])
     ·try simp only [Bool.not_eq_false'] at h31
      try simp only [Int.toNat_natCast, dflt_sl, dflt_st, dflt_str, dflt_int, dflt_bool] at h31
      refine acode_skip ?_
      refine acode_seq ?_
      refine acode_draw rfl (by kernel_rfl) ?_
      refine And.intro (by first | omega | assumption | decide | (simp only [Int.toNat_natCast, dflt_sl, dflt_st, dflt_str, dflt_int, dflt_bool]; omega) | (simp <;> omega)) ?_
      refine And.intro (by first | omega | assumption | decide | (simp only [Int.toNat_natCast, dflt_sl, dflt_st, dflt_str, dflt_int, dflt_bool]; omega) | (simp <;> omega)) ?_
      refine And.intro (by first | omega | assumption | decide | (simp only [Int.toNat_natCast, dflt_sl, dflt_st, dflt_str, dflt_int, dflt_bool]; omega) | (simp <;> omega)) ?_
      refine acode_ret ?_
      rw [show refCutL s.data.toList = (s.data.toList.take k, s.data.toList.drop (k + 1), true) by unfold refCutL; rw [if_neg h1, hcut, if_pos (by simp only [Bool.true_and]; exact h31)]]
      exact tup3_eq (ls_inj (by unfold ls; rw [extract_ls, Int.toNat_natCast]; simp)) (ls_inj (by unfold ls; rw [extract_ls, show ((k : Int) + 1).toNat = k + 1 by omega, List.take_of_length_le (by rw [List.length_drop]; omega)]))
    ·try simp only [decide_eq_false_iff_not] at h26
     try simp only [Int.toNat_natCast] at h26
     have hne2 : s.data.toList.getD k 0 ≠ 58 := fun e => h26 (by rw [e]; rfl)
     refine acode_skip ?_
     refine acode_region ?_
     refine And.intro (by first | omega | assumption | decide | (simp only [Int.toNat_natCast, dflt_sl, dflt_st, dflt_str, dflt_int, dflt_bool]; omega) | (simp <;> omega)) ?_
     exact ⟨k + 1, ⟨by omega, notin_snoc hlt2 h2 hne2⟩, by first | omega | (simp <;> omega), le_of ⟨rfl, (ii_eq (by omega))⟩ trivial rfl⟩
   ·try simp only [decide_eq_false_iff_not, Int.not_lt] at h20
    try simp only [Int.toNat_natCast, dflt_sl, dflt_st, dflt_str, dflt_int, dflt_bool] at h20
    refine acode_exit ?_
    refine acode_seq ?_
    refine acode_region ?_
    refine acode_ret ?_
    exact cutA_eq (c := ([], [], false)) (by unfold refCutL; rw [if_neg h1, cut_none (by rw [List.take_of_length_le (by omega)] at h2; exact h2), if_neg (by simp)])
end Q
end Ab
end Go.Proofs.YtlbainbjlibfiaaDoor
namespace Go.Proofs.YtlbainbjlibfiaaDoor
open Go.RowKit
namespace Ab
set_option maxRecDepth 100000
namespace Q
theorem refCut_v (s : ByteArray) (c : List UInt8 × List UInt8 × Bool) (hc : refCutL s.data.toList = c) (hs : s.size ≤ 1000000000) : ACall Tryd.prog 71 [is s] (cutA c) := by
  subst hc; exact refCut_c s hs
theorem kind_tail {l : List UInt8} (h1 : 10 ∉ l) (hb : l.all blankC = false) : kindL l = if l.getD 0 0 = 35 then 2 else if blankC (l.getD 0 0) = true then 3 else if (refCutL l).2.2 = true then 4 else 5 := by
  cases l with
  | nil => cases hb
  | cons c r =>
    have e : (refCutL (c :: r)).2.2 = ((Lib.cut (c :: r) [58]).2.2 && keyOk (Lib.cut (c :: r) [58]).1) := by
      unfold refCutL
      rw [if_neg h1]
      split
      · rename_i h; rw [h]; simp only [Bool.and_eq_true] at h; exact h.1
      · rename_i h; exact (Bool.not_eq_true _ ▸ h : _ = false).symm
    unfold kindL
    rw [if_neg h1, if_neg (by rw [hb]; decide), hasPrefix_one, e]
    simp [blankL]
theorem refKind_c (s : ByteArray) (hs : s.size ≤ 1000000000) : ACall Tryd.prog 59 [is s] (ii .i64 (kindL s.data.toList)) := by
  have hz := size_list s
  refine acall_of (rs := [2]) Tryd.func59 rfl rfl rfl teOk rfl ?_
  refine acode_seq ?_
  refine acode_region ?_
  refine acode_seq ?_
  refine acode_region ?_
  refine acode_seq ?_
  refine acode_seq ?_
  refine acode_region ?_
  refine acode_block ?_
  refine acode_loopP (fun (i : Nat) => i ≤ s.size ∧ 10 ∉ s.data.toList.take i) (fun (i : Nat) => [(0, is s), (3, ib ((s.data.toList.take i).all blankC)), (4, ii .i64 i)]) (fun (i : Nat) => []) 0 (fun (i : Nat) => s.size - i) 0 (⟨Nat.zero_le _, by simp⟩) (le_of ⟨rfl, rfl, rfl⟩ trivial rfl) ?_
  intro i hI0
  obtain ⟨hi, h1⟩ := hI0
  refine acode_seq ?_
  refine acode_seq ?_
  refine acode_region ?_
  refine acode_cond rfl (fun h11 => ?_) (fun h11 => ?_)
  ·try simp only [decide_eq_true_eq] at h11
   try simp only [Int.toNat_natCast, dflt_sl, dflt_st, dflt_str, dflt_int, dflt_bool] at h11
   have hlt : i < s.data.toList.length := by omega
   refine acode_skip ?_
   refine acode_seq ?_
   refine acode_block ?_
   refine acode_seq ?_
   refine acode_seq ?_
   refine acode_region ?_
   refine And.intro (by first | omega | assumption | decide | (simp only [Int.toNat_natCast, dflt_sl, dflt_st, dflt_str, dflt_int, dflt_bool]; omega) | (simp <;> omega)) ?_
   refine acode_cond rfl (fun h17 => ?_) (fun h17 => ?_)
   ·try simp only [decide_eq_true_eq] at h17
    try simp only [Int.toNat_natCast] at h17
    have hm : 10 ∈ s.data.toList := (show s.data.toList.getD i 0 = 10 from u8_eq h17) ▸ getD_mem hlt 0
    refine acode_seq ?_
    refine acode_region ?_
    refine acode_ret ?_
    refine ii_eq ?_
    unfold kindL
    rw [if_pos hm]
   ·try simp only [decide_eq_false_iff_not] at h17
    try simp only [Int.toNat_natCast] at h17
    have hne : s.data.toList.getD i 0 ≠ 10 := fun e => h17 (by rw [e]; rfl)
    refine acode_skip ?_
    refine acode_region ?_
    refine And.intro (fun h => trivial) ?_
    refine And.intro (fun h => trivial) ?_
    refine And.intro (fun h => ⟨⟨⟨h, trivial⟩, ⟨h, trivial⟩, trivial⟩, by first | omega | decide | (simp only [Int.toNat_natCast, dflt_sl, dflt_st, dflt_str, dflt_int, dflt_bool]; omega) | (have h9 := of_decide_eq_true h; omega) | (simp [gq] at h; omega)⟩) ?_
    refine Or.inl ?_
    refine And.intro (rfl) ?_
    refine Exists.intro _ (And.intro (fun h => ⟨⟨⟨h, trivial⟩, trivial⟩, refBlank_c (s.data.toList.getD i 0) _ rfl⟩) ?_)
    refine And.intro (by exact fun h => h) ?_
    refine acode_region ?_
    refine And.intro (by first | omega | assumption | decide | (simp only [Int.toNat_natCast, dflt_sl, dflt_st, dflt_str, dflt_int, dflt_bool]; omega) | (simp <;> omega)) ?_
    exact ⟨i + 1, ⟨by omega, notin_snoc hlt h1 hne⟩, by first | omega | (simp <;> omega), le_of ⟨rfl, (ib_eq (all_take_succ s.data.toList blankC 0 i hlt).symm), (ii_eq (by omega))⟩ trivial rfl⟩
  ·try simp only [decide_eq_false_iff_not, Int.not_lt] at h11
   try simp only [Int.toNat_natCast, dflt_sl, dflt_st, dflt_str, dflt_int, dflt_bool] at h11
   rw [List.take_of_length_le (by omega)] at h1 ⊢
   refine acode_exit ?_
   refine acode_seq ?_
   refine acode_seq ?_
   refine acode_region ?_
   refine acode_cond rfl (fun h25 => ?_) (fun h25 => ?_)
   ·try simp only [decide_eq_true_eq, decide_eq_false_iff_not, Bool.and_eq_true, Bool.not_eq_true', Bool.not_eq_false', Bool.or_eq_false_iff, Bool.or_eq_true, Bool.and_eq_false_iff, Int.not_lt, Int.not_le] at h25
    try simp only [Int.toNat_natCast, dflt_sl, dflt_st, dflt_str, dflt_int, dflt_bool] at h25
    refine acode_seq ?_
    refine acode_region ?_
    refine acode_ret ?_
    refine ii_eq ?_
    unfold kindL
    rw [if_neg h1, if_pos h25]
   ·try simp only [decide_eq_true_eq, decide_eq_false_iff_not, Bool.and_eq_true, Bool.not_eq_true', Bool.not_eq_false', Bool.or_eq_false_iff, Bool.or_eq_true, Bool.and_eq_false_iff, Int.not_lt, Int.not_le] at h25
    try simp only [Int.toNat_natCast, dflt_sl, dflt_st, dflt_str, dflt_int, dflt_bool] at h25
    have hpos : 0 < s.data.toList.length := Nat.pos_of_ne_zero fun h => by rw [List.eq_nil_of_length_eq_zero h] at h25; cases h25
    refine acode_skip ?_
    refine acode_seq ?_
    refine acode_seq ?_
    refine acode_region ?_
    refine And.intro (by first | omega | assumption | decide | (simp only [Int.toNat_natCast, dflt_sl, dflt_st, dflt_str, dflt_int, dflt_bool]; omega) | (simp <;> omega)) ?_
    refine acode_cond rfl (fun h28 => ?_) (fun h28 => ?_)
    ·try simp only [decide_eq_true_eq] at h28
     try simp only [Int.toNat_natCast, dflt_sl, dflt_st, dflt_str, dflt_int, dflt_bool] at h28
     refine acode_seq ?_
     refine acode_region ?_
     refine acode_ret ?_
     refine ii_eq ?_
     rw [kind_tail h1 h25, if_pos (u8_eq h28)]
    ·try simp only [decide_eq_false_iff_not] at h28
     try simp only [Int.toNat_natCast, dflt_sl, dflt_st, dflt_str, dflt_int, dflt_bool] at h28
     refine acode_skip ?_
     refine acode_seq ?_
     refine acode_seq ?_
     refine acode_region ?_
     refine And.intro (by first | omega | assumption | decide | (simp only [Int.toNat_natCast, dflt_sl, dflt_st, dflt_str, dflt_int, dflt_bool]; omega) | (simp <;> omega)) ?_
     refine Or.inl ?_
     refine And.intro (rfl) ?_
     refine Exists.intro _ (And.intro (refBlank_c (s.data.toList.getD 0 0) _ rfl) ?_)
     refine acode_cond rfl (fun h31 => ?_) (fun h31 => ?_)
     ·try simp only [decide_eq_true_eq, decide_eq_false_iff_not, Bool.and_eq_true, Bool.not_eq_true', Bool.not_eq_false', Bool.or_eq_false_iff, Bool.or_eq_true, Bool.and_eq_false_iff, Int.not_lt, Int.not_le] at h31
      try simp only [Int.toNat_natCast, dflt_sl, dflt_st, dflt_str, dflt_int, dflt_bool] at h31
      refine acode_seq ?_
      refine acode_region ?_
      refine acode_ret ?_
      refine ii_eq ?_
      rw [kind_tail h1 h25, if_neg (fun e => h28 (by rw [show s.data.toList.getD (Int.toNat 0) 0 = 35 from e]; rfl)), if_pos h31]
     ·try simp only [decide_eq_true_eq, decide_eq_false_iff_not, Bool.and_eq_true, Bool.not_eq_true', Bool.not_eq_false', Bool.or_eq_false_iff, Bool.or_eq_true, Bool.and_eq_false_iff, Int.not_lt, Int.not_le] at h31
      try simp only [Int.toNat_natCast, dflt_sl, dflt_st, dflt_str, dflt_int, dflt_bool] at h31
      refine acode_skip ?_
      refine acode_seq ?_
      refine acode_seq ?_
      refine acode_region ?_
      refine Or.inl ?_
      refine And.intro (rfl) ?_
      refine Exists.intro _ (And.intro (refCut_v s _ rfl hs) ?_)
      refine acode_seq ?_
      refine acode_region ?_
      refine acode_cond rfl (fun h38 => ?_) (fun h38 => ?_)
      ·try simp only [decide_eq_true_eq, decide_eq_false_iff_not, Bool.and_eq_true, Bool.not_eq_true', Bool.not_eq_false', Bool.or_eq_false_iff, Bool.or_eq_true, Bool.and_eq_false_iff, Int.not_lt, Int.not_le] at h38
       try simp only [Int.toNat_natCast, dflt_sl, dflt_st, dflt_str, dflt_int, dflt_bool] at h38
       refine acode_seq ?_
       refine acode_region ?_
       refine acode_ret ?_
       refine ii_eq ?_
       rw [kind_tail h1 h25, if_neg (fun e => h28 (by rw [show s.data.toList.getD (Int.toNat 0) 0 = 35 from e]; rfl)), if_neg (by rw [h31]; decide), if_pos h38]
      ·try simp only [decide_eq_true_eq, decide_eq_false_iff_not, Bool.and_eq_true, Bool.not_eq_true', Bool.not_eq_false', Bool.or_eq_false_iff, Bool.or_eq_true, Bool.and_eq_false_iff, Int.not_lt, Int.not_le] at h38
       try simp only [Int.toNat_natCast, dflt_sl, dflt_st, dflt_str, dflt_int, dflt_bool] at h38
       refine acode_skip ?_
       refine acode_seq ?_
       refine acode_region ?_
       refine acode_ret ?_
       refine ii_eq ?_
       rw [kind_tail h1 h25, if_neg (fun e => h28 (by rw [show s.data.toList.getD (Int.toNat 0) 0 = 35 from e]; rfl)), if_neg (by rw [h31]; decide), if_neg (by rw [h38]; decide)]
end Q
end Ab
end Go.Proofs.YtlbainbjlibfiaaDoor
namespace Go.Proofs.YtlbainbjlibfiaaDoor
open Go.RowKit
namespace Ab
set_option maxRecDepth 100000
namespace Q
def lineB (key v : ByteArray) : List ByteArray := (linesL key.data.toList v.data.toList).map bytes
theorem check_ok {f : Fld} (h : checkF f = 0) : keyOk f.1.data.toList = true ∧ f.2.size ≤ 1000 ∧ f.1.size ≤ 32 := by
  unfold checkF at h
  split at h
  · rename_i hk
    split at h
    · cases h
    · refine ⟨hk, by omega, ?_⟩
      have := hk
      unfold keyOk at this
      simp only [Bool.and_eq_true, decide_eq_true_eq] at this
      rw [size_list]; exact this.1.1.1.1.2
  · cases h
theorem stuff_len (s : List UInt8) : (stuffL s).length ≤ s.length + 1 := by
  unfold stuffL; split <;> simp
def linesA (f : Fld) : A := if checkF f = 0 then .tup [(false, [.sl .str (lineB f.1 f.2)]), (false, [.lit .nilIface])] else .tup [(false, [.sl .str []]), (false, [errN (checkF f)])]
theorem linesA_bad {f : Fld} {n : Int} (h : checkF f = n) (hn : n ≠ 0) : linesA f = .tup [(false, [.sl .str []]), (false, [errN n])] := by
  unfold linesA; rw [if_neg (by rw [h]; exact hn), h]
theorem linesA_ok {f : Fld} (h : checkF f = 0) : linesA f = .tup [(false, [.sl .str (lineB f.1 f.2)]), (false, [.lit .nilIface])] := by
  unfold linesA; rw [if_pos h]
theorem stuffed_v (s : ByteArray) (l : List UInt8) (hl : s.data.toList = l) (hs : l.length ≤ 1000000) : ACall Tryd.prog 62 [is s] (is (bytes (stuffL l))) := by
  subst hl; exact stuffed_c s (by rw [size_list]; exact hs)
theorem first_b (k p : ByteArray) (h : ¬ p = ⟨#[]⟩) : (k ++ (⟨#[58]⟩ : ByteArray)) ++ ((⟨#[32]⟩ : ByteArray) ++ p) = bytes (firstL k.data.toList p.data.toList) := by
  have hp : p.data.toList ≠ [] := fun e => h (emp.2 (by rw [e]; rfl))
  unfold firstL
  rw [if_neg hp, bytes_app, bytes_app, show (32 :: p.data.toList) = [32] ++ p.data.toList from rfl, bytes_app, show bytes k.data.toList = k from bytes_ls k, show bytes p.data.toList = p from bytes_ls p]
  rfl
theorem first_e (k p : ByteArray) (h : p = ⟨#[]⟩) : k ++ (⟨#[58]⟩ : ByteArray) = bytes (firstL k.data.toList p.data.toList) := by
  have hp : p.data.toList = [] := by rw [h]
  unfold firstL
  rw [if_pos hp, List.append_nil, bytes_app, show bytes k.data.toList = k from bytes_ls k]; rfl
theorem tupS_eq {xs ys : List ByteArray} (h : xs = ys) : A.tup [(false, [.sl .str xs]), (false, [.lit .nilIface])] = A.tup [(false, [.sl .str ys]), (false, [.lit .nilIface])] := by rw [h]
theorem lineB_eq {key v : ByteArray} {ws : List ByteArray} (hsp : ws.map ls = partsL v.data.toList) (hpos : 0 < ws.length) : bytes (firstL key.data.toList (ws.getD 0 ByteArray.empty).data.toList) :: (ws.drop 1).map (fun s => bytes (32 :: stuffL s.data.toList)) = lineB key v := by
  unfold lineB linesL
  rw [← hsp]
  cases ws with
  | nil => cases hpos
  | cons w r => simp [ls]
theorem lines_c (f : Fld) (hk : f.1.size ≤ 1000000) (hv : f.2.size ≤ 1000000) : ACall Tryd.prog 47 [.agg (toL rFld f)] (linesA f) := by
  obtain ⟨ws, hws⟩ : ∃ ws, Lib.splitB ⟨#[10]⟩ 0 (Lib.countB f.2 ⟨#[10]⟩) f.2 = ws := ⟨_, rfl⟩
  have hsz : ∀ x ∈ ws, x.size ≤ 1000000 := fun x hx => Nat.le_trans (split_size _ _ _ x (hws ▸ hx)) hv
  have hlen : ws.length ≤ f.2.size + 1 := by rw [← hws]; exact split_len _ _ (by decide)
  have hsp : ws.map ls = partsL f.2.data.toList := by rw [← hws]; exact split_ls _ _
  have hpos : 0 < ws.length := by
    have := split_ne f.2.data.toList [10]
    rw [← List.length_map (f := ls), hsp]
    exact List.length_pos_iff.2 this
  refine acall_of (rs := [2, 3]) Tryd.func47 rfl rfl rfl teOk rfl ?_
  refine acode_seq ?_
  refine acode_region ?_
  refine acode_seq ?_
  refine acode_seq ?_
  rcases check_cases f with hc|hc|hc
  ·refine acode_region ?_
   refine Or.inl ?_
   refine And.intro (rfl) ?_
   refine Exists.intro _ (And.intro ((check_v f 5 (by omega) hc : ACall _ _ _ (.one (errN 5)))) ?_)
   refine acode_seq ?_
   refine acode_region ?_
   refine acode_cond rfl (fun h12 => ?_) (fun h12 => ?_)
   ·skip
    refine acode_seq ?_
    refine acode_region ?_
    refine acode_nilvec 2 9 .str rfl ?_
    refine acode_ret ?_
    rw [linesA_bad hc (by decide)]
    rfl
   ·try simp only [decide_eq_true_eq, decide_eq_false_iff_not, Bool.and_eq_true, Bool.not_eq_true', Bool.not_eq_false', Bool.or_eq_false_iff, Bool.or_eq_true, Bool.and_eq_false_iff, Int.not_lt, Int.not_le] at h12
    try simp only [Int.toNat_natCast, dflt_sl, dflt_st, dflt_str, dflt_int, dflt_bool] at h12
    cases h12
  ·refine acode_region ?_
   refine Or.inl ?_
   refine And.intro (rfl) ?_
   refine Exists.intro _ (And.intro ((check_v f 6 (by omega) hc : ACall _ _ _ (.one (errN 6)))) ?_)
   refine acode_seq ?_
   refine acode_region ?_
   refine acode_cond rfl (fun h12 => ?_) (fun h12 => ?_)
   ·skip
    refine acode_seq ?_
    refine acode_region ?_
    refine acode_nilvec 2 9 .str rfl ?_
    refine acode_ret ?_
    rw [linesA_bad hc (by decide)]
    rfl
   ·try simp only [decide_eq_true_eq, decide_eq_false_iff_not, Bool.and_eq_true, Bool.not_eq_true', Bool.not_eq_false', Bool.or_eq_false_iff, Bool.or_eq_true, Bool.and_eq_false_iff, Int.not_lt, Int.not_le] at h12
    try simp only [Int.toNat_natCast, dflt_sl, dflt_st, dflt_str, dflt_int, dflt_bool] at h12
    cases h12
  ·refine acode_region ?_
   refine Or.inl ?_
   refine And.intro (rfl) ?_
   refine Exists.intro _ (And.intro ((check_v f 0 (by omega) hc : ACall _ _ _ (.one (.lit .nilIface)))) ?_)
   refine acode_seq ?_
   refine acode_region ?_
   refine acode_cond rfl (fun h12 => ?_) (fun h12 => ?_)
   ·try simp only [Bool.not_eq_true'] at h12
    try simp only [Int.toNat_natCast, dflt_sl, dflt_st, dflt_str, dflt_int, dflt_bool] at h12
    cases h12
   ·try simp only [Bool.not_eq_false'] at h12
    try simp only [Int.toNat_natCast, dflt_sl, dflt_st, dflt_str, dflt_int, dflt_bool] at h12
    have hdl : (ws.drop 1).length = ws.length - 1 := List.length_drop
    obtain ⟨hko, hv1, hk1⟩ := check_ok hc
    obtain ⟨p0, hp0⟩ : ∃ p, ws.getD 0 ByteArray.empty = p := ⟨_, rfl⟩
    have hp0s : p0.size ≤ 1000000 := by rw [← hp0]; exact hsz _ (getD_mem hpos _)
    refine acode_skip ?_
    refine acode_seq ?_
    refine acode_region ?_
    refine Or.inl ?_
    refine And.intro (rfl) ?_
    refine Exists.intro _ (And.intro (split_v f.2 ⟨#[10]⟩ ws hws (by omega) (by decide)) ?_)
    refine acode_seq ?_
    refine acode_region ?_
    refine And.intro (by (have hk0 : ByteArray.size { data := #[58] } = 1 := rfl; first | (unfold maxLen; omega) | (simp only [ByteArray.size_append]; omega) | (unfold maxLen; (try simp only [ByteArray.size_append]); omega))) ?_
    refine acode_cut (fun (u : Unit) => True) (fun (u : Unit) => [(5, .one (.sl .str ws)), (6, .one (.vec 1))]) (fun (u : Unit) => [(1, .vec 9 .str [bytes (firstL f.1.data.toList p0.data.toList)])]) 2 ?_ ?_
    ·refine acode_seq ?_
     refine acode_region ?_
     refine And.intro (by first | omega | assumption | decide | (simp only [Int.toNat_natCast, dflt_sl, dflt_st, dflt_str, dflt_int, dflt_bool]; omega) | (simp <;> omega)) ?_
     refine acode_cond rfl (fun h24 => ?_) (fun h24 => ?_)
     ·try simp only [decide_eq_false_iff_not, Bool.not_eq_true'] at h24
      try simp only [dflt_str] at h24
      have hq : (ws.getD (Int.toNat 0) (Rd.str).dflt).size ≤ 1000000 := hsz _ (getD_mem hpos _)
      have hk2 : ([f.1 ++ (⟨#[58]⟩ : ByteArray)].getD (Int.toNat 0) (Rd.str).dflt).size ≤ 1000 := by show (f.1 ++ (⟨#[58]⟩ : ByteArray)).size ≤ _; rw [ByteArray.size_append, show ByteArray.size ⟨#[58]⟩ = 1 from rfl]; omega
      refine acode_ord rfl ?_
      refine aord_light 0 rfl rfl rfl (by kernel_rfl) ?_
      refine aord_light 1 rfl rfl rfl (by kernel_rfl) ?_
      refine And.intro (by first | omega | assumption | decide | (simp only [Int.toNat_natCast, dflt_sl, dflt_st, dflt_str, dflt_int, dflt_bool]; omega) | (simp <;> omega)) ?_
      refine aord_light 3 rfl rfl rfl (by kernel_rfl) ?_
      refine aord_light 4 rfl rfl rfl (by kernel_rfl) ?_
      refine And.intro (by first | omega | assumption | decide | (simp only [Int.toNat_natCast, dflt_sl, dflt_st, dflt_str, dflt_int, dflt_bool]; omega) | (simp <;> omega)) ?_
      refine aord_all [2, 5] (by kernel_rfl) rfl ?_
      refine And.intro ?_ ?_
      ·refine And.intro (by exact Nat.zero_lt_one) ?_
       refine aord_all [5] (by kernel_rfl) rfl ?_
       refine aord_light 6 rfl rfl rfl (by kernel_rfl) ?_
       refine And.intro (by (have hk0 : ByteArray.size { data := #[32] } = 1 := rfl; first | (unfold maxLen; omega) | (simp only [ByteArray.size_append]; omega) | (unfold maxLen; (try simp only [ByteArray.size_append]); omega))) ?_
       refine aord_light 7 rfl rfl rfl (by kernel_rfl) ?_
       refine And.intro (by (have hk0 : ByteArray.size { data := #[32] } = 1 := rfl; first | (unfold maxLen; omega) | (simp only [ByteArray.size_append]; omega) | (unfold maxLen; (try simp only [ByteArray.size_append]); omega))) ?_
       refine aord_light 8 rfl rfl rfl (by kernel_rfl) ?_
       refine And.intro (by first | omega | assumption | decide | (simp only [Int.toNat_natCast, dflt_sl, dflt_st, dflt_str, dflt_int, dflt_bool]; omega) | (simp <;> omega)) ?_
       refine aord_all [9] (by kernel_rfl) rfl ?_
       refine And.intro (by exact Nat.zero_lt_one) ?_
       refine aord_done (by kernel_rfl) ?_
       exact ⟨(), trivial, le_of ⟨rfl, rfl⟩ (vec_eq (congrArg (fun x => [x]) (by rw [← hp0]; exact first_b _ _ h24))) rfl⟩
      ·refine aord_light 6 rfl rfl rfl (by kernel_rfl) ?_
       refine And.intro (by (have hk0 : ByteArray.size { data := #[32] } = 1 := rfl; first | (unfold maxLen; omega) | (simp only [ByteArray.size_append]; omega) | (unfold maxLen; (try simp only [ByteArray.size_append]); omega))) ?_
       refine aord_all [2] (by kernel_rfl) rfl ?_
       refine And.intro (by exact Nat.zero_lt_one) ?_
       refine aord_light 7 rfl rfl rfl (by kernel_rfl) ?_
       refine And.intro (by (have hk0 : ByteArray.size { data := #[32] } = 1 := rfl; first | (unfold maxLen; omega) | (simp only [ByteArray.size_append]; omega) | (unfold maxLen; (try simp only [ByteArray.size_append]); omega))) ?_
       refine aord_light 8 rfl rfl rfl (by kernel_rfl) ?_
       refine And.intro (by first | omega | assumption | decide | (simp only [Int.toNat_natCast, dflt_sl, dflt_st, dflt_str, dflt_int, dflt_bool]; omega) | (simp <;> omega)) ?_
       refine aord_all [9] (by kernel_rfl) rfl ?_
       refine And.intro (by exact Nat.zero_lt_one) ?_
       refine aord_done (by kernel_rfl) ?_
       exact ⟨(), trivial, le_of ⟨rfl, rfl⟩ (vec_eq (congrArg (fun x => [x]) (by rw [← hp0]; exact first_b _ _ h24))) rfl⟩
     ·try simp only [decide_eq_true_eq, Bool.not_eq_false'] at h24
      try simp only [dflt_str] at h24
      refine acode_skip ?_
      exact ⟨(), trivial, le_of ⟨rfl, rfl⟩ (vec_eq (congrArg (fun x => [x]) (by rw [← hp0]; exact first_e _ _ h24))) rfl⟩
    ·intro u hcut8
     refine acode_seq ?_
     refine acode_seq ?_
     refine acode_region ?_
     refine And.intro (by first | omega | assumption | decide | (simp only [Int.toNat_natCast, dflt_sl, dflt_st, dflt_str, dflt_int, dflt_bool]; omega) | (simp <;> omega)) ?_
     intro l8_2
     try simp only [Int.toNat_natCast, dflt_sl, dflt_st, dflt_str, dflt_int, dflt_bool] at l8_2
     refine acode_block ?_
     refine acode_loopP (fun (i : Nat) => i ≤ (ws.drop 1).length) (fun (i : Nat) => [(6, .one (.vec 1)), (35, .one (.sl .str (ws.drop 1))), (36, ii .i64 (ws.drop 1).length), (37, ii .i64 i)]) (fun (i : Nat) => [(1, .vec 9 .str (bytes (firstL f.1.data.toList p0.data.toList) :: ((ws.drop 1).take i).map fun s => bytes (32 :: stuffL s.data.toList)))]) 2 (fun (i : Nat) => (ws.drop 1).length - i) 0 (Nat.zero_le _) (le_of ⟨rfl, (sl_eq rfl), (ii_eq rfl), rfl⟩ rfl rfl) ?_
     intro i hI0
     have hi := hI0
     refine acode_seq ?_
     refine acode_region ?_
     refine acode_seq ?_
     refine acode_cond rfl (fun h38 => ?_) (fun h38 => ?_)
     ·try simp only [decide_eq_true_eq] at h38
      try simp only [Int.toNat_natCast, dflt_sl, dflt_st, dflt_str, dflt_int, dflt_bool] at h38
      have hlt : i < (ws.drop 1).length := by omega
      have hm : ((ws.drop 1).getD i ByteArray.empty).size ≤ 1000000 := hsz _ (List.mem_of_mem_drop (getD_mem hlt _))
      have hst : (bytes (stuffL ((ws.drop 1).getD i ByteArray.empty).data.toList)).size ≤ 1000001 := by rw [bytes_size]; have := stuff_len ((ws.drop 1).getD i ByteArray.empty).data.toList; rw [size_list] at hm; omega
      refine acode_skip ?_
      refine acode_seq ?_
      refine acode_block ?_
      refine acode_seq ?_
      refine acode_region ?_
      refine And.intro (by first | omega | assumption | decide | (simp only [Int.toNat_natCast, dflt_sl, dflt_st, dflt_str, dflt_int, dflt_bool]; omega) | (simp <;> omega)) ?_
      refine acode_region ?_
      refine Or.inl ?_
      refine And.intro (rfl) ?_
      refine Exists.intro _ (And.intro (stuffed_v _ _ rfl (by rw [← size_list]; exact hm)) ?_)
      refine And.intro (by unfold maxLen; rw [show ByteArray.size ⟨#[32]⟩ = 1 from rfl, Int.toNat_natCast]; exact Nat.le_trans (Nat.add_le_add_left hst 1) (by decide)) ?_
      refine And.intro (by show (_ + 1) * 16 ≤ 140737488355328; rw [List.length_cons, List.length_map, List.length_take]; omega) ?_
      refine acode_region ?_
      refine And.intro (by first | omega | assumption | decide | (simp only [Int.toNat_natCast, dflt_sl, dflt_st, dflt_str, dflt_int, dflt_bool]; omega) | (simp <;> omega)) ?_
      exact ⟨i + 1, by omega, by first | omega | (simp <;> omega), le_of ⟨rfl, rfl, rfl, (ii_eq (by omega))⟩ (vec_eq (by rw [← map_snoc (fun s : ByteArray => bytes (32 :: stuffL s.data.toList)) ByteArray.empty hlt, ← List.cons_append, show bytes (32 :: stuffL ((ws.drop 1).getD i ByteArray.empty).data.toList) = bytes [32] ++ bytes (stuffL ((ws.drop 1).getD i ByteArray.empty).data.toList) from bytes_app [32] _]; rfl)) rfl⟩
     ·try simp only [decide_eq_false_iff_not, Int.not_lt] at h38
      try simp only [Int.toNat_natCast, dflt_sl, dflt_st, dflt_str, dflt_int, dflt_bool] at h38
      refine acode_exit ?_
      refine acode_seq ?_
      refine acode_region ?_
      refine acode_ret ?_
      rw [linesA_ok hc]
      exact tupS_eq (by rw [List.take_of_length_le (by omega), ← lineB_eq hsp hpos, hp0])
end Q
end Ab
end Go.Proofs.YtlbainbjlibfiaaDoor
namespace Go.Proofs.YtlbainbjlibfiaaDoor
open Go.RowKit
namespace Ab
set_option maxRecDepth 100000
namespace Q
def endL (ls : List (List UInt8)) : List UInt8 := ls.flatMap fun s => s ++ [10]
def textL (f : Fld) : List UInt8 := endL (linesL f.1.data.toList f.2.data.toList)
def foldL (l : List Fld) : List UInt8 := l.flatMap textL
def badF (l : List Fld) : Int := match l with
  | [] => 0
  | f :: r => if checkF f = 0 then badF r else checkF f
theorem badF_ok : ∀ {l : List Fld}, (∀ f ∈ l, checkF f = 0) → badF l = 0
  | [], _ => rfl
  | f :: r, h => by unfold badF; rw [if_pos (h f (by simp)), badF_ok fun g hg => h g (by simp [hg])]
theorem badF_at : ∀ {l : List Fld} {i : Nat} (d : Fld), i < l.length → (∀ f ∈ l.take i, checkF f = 0) → checkF (l.getD i d) ≠ 0 → badF l = checkF (l.getD i d)
  | f :: r, 0, d, _, _, h => by unfold badF; rw [if_neg (by simpa using h)]; rfl
  | f :: r, i + 1, d, hi, ht, h => by
    unfold badF
    rw [if_pos (ht f (by simp)), badF_at d (by simpa using hi) (fun g hg => ht g (by simp [hg])) (by simpa using h)]; simp
theorem badF_zero : ∀ {l : List Fld}, badF l = 0 → ∀ f ∈ l, checkF f = 0
  | f :: r, h, g, hg => by
    unfold badF at h
    split at h
    · rename_i h0
      rcases List.mem_cons.1 hg with rfl | hg
      · exact h0
      · exact badF_zero h g hg
    · rename_i h0; exact absurd h h0
theorem endL_snoc (ps : List (List UInt8)) (k : Nat) (h : k < ps.length) : endL (ps.take (k + 1)) = endL (ps.take k) ++ (ps.getD k [] ++ [10]) := by
  rw [← take_snoc [] h]; simp [endL]
theorem foldL_snoc (l : List Fld) (i : Nat) (d : Fld) (h : i < l.length) : foldL (l.take (i + 1)) = foldL (l.take i) ++ textL (l.getD i d) := by
  rw [← take_snoc d h]; simp [foldL]
theorem flat_le {α : Type} (g : α → List UInt8) (B : Nat) : ∀ l : List α, (∀ x ∈ l, (g x).length ≤ B) → (l.flatMap g).length ≤ l.length * B
  | [], _ => by simp
  | x :: l, h => by
    rw [List.flatMap_cons, List.length_append, List.length_cons, Nat.succ_mul]
    have := h x (by simp)
    have := flat_le g B l fun y hy => h y (by simp [hy])
    omega
theorem line_len {k v : List UInt8} (hk : k.length ≤ 32) (hv : v.length ≤ 1000) : (linesL k v).length ≤ 2000 ∧ ∀ s ∈ linesL k v, s.length ≤ 2000 := by
  have hp : ∀ p ∈ partsL v, p.length ≤ v.length := fun p hp => split_mem hp
  have hl : (partsL v).length ≤ v.length + 1 := by
    have := split_len (bytes [10]) (bytes v) (by decide)
    have h2 := congrArg List.length (split_ls (bytes [10]) (bytes v))
    rw [List.length_map] at h2
    rw [h2] at this
    unfold ls at this
    rw [bytes_list, bytes_list, bytes_size] at this
    exact this
  refine ⟨?_, fun s hs => ?_⟩
  · unfold linesL; simp only [List.length_cons, List.length_map, List.length_drop]; omega
  · unfold linesL at hs
    rcases List.mem_cons.1 hs with rfl | hs
    · unfold firstL
      have h0 : ((partsL v).headD []).length ≤ v.length := by
        cases e : partsL v with
        | nil => exact absurd e (split_ne v [10])
        | cons p ps => rw [e] at hp; exact hp p (by simp)
      have h1 : (if (partsL v).headD [] = [] then [] else 32 :: (partsL v).headD [] : List UInt8).length ≤ ((partsL v).headD []).length + 1 := by split <;> simp
      simp only [List.length_append, List.length_cons, List.length_nil]
      omega
    · obtain ⟨q, hq, rfl⟩ := List.mem_map.1 hs
      have := stuff_len q
      have := hp q (List.mem_of_mem_drop hq)
      simp only [List.length_cons]; omega
theorem text_len {f : Fld} (h : checkF f = 0) : (textL f).length ≤ 5000000 ∧ ∀ k, (endL ((linesL f.1.data.toList f.2.data.toList).take k)).length ≤ 5000000 := by
  obtain ⟨_, h2, h3⟩ := check_ok h
  rw [size_list] at h2 h3
  obtain ⟨h4, h5⟩ := line_len h3 h2
  have : ∀ ps : List (List UInt8), ps.length ≤ 2000 → (∀ s ∈ ps, s.length ≤ 2000) → (endL ps).length ≤ 5000000 := fun ps hl hs => by
    have := flat_le (fun s : List UInt8 => s ++ [10]) 2001 ps (fun s h => by have := hs s h; simp; omega)
    unfold endL
    have : ps.length * 2001 ≤ 2000 * 2001 := Nat.mul_le_mul_right _ hl
    omega
  exact ⟨this _ h4 h5, fun k => this _ (by rw [List.length_take]; omega) fun s hs => h5 s (List.mem_of_mem_take hs)⟩
def foldA (l : List Fld) : A := if badF l = 0 then .tup [(false, [.lit (.string (bytes (foldL l)))]), (false, [.lit .nilIface])] else .tup [(false, [.lit (.string ⟨#[]⟩)]), (false, [errN (badF l)])]
theorem lineB_get {k v : ByteArray} {j : Nat} (h : j < (lineB k v).length) : (lineB k v).getD j ByteArray.empty = bytes ((linesL k.data.toList v.data.toList).getD j []) := by
  unfold lineB at *
  rw [List.length_map] at h
  rw [List.getD_eq_getElem?_getD, List.getElem?_map, List.getD_eq_getElem?_getD, List.getElem?_eq_getElem h]; rfl
theorem fold_c {κ : Nat} (l : List Fld) (hl : FldsOk l) : ACall Tryd.prog 37 [.one (.slk κ rFld l)] (foldA l) := by
  have hln := hl.1
  refine acall_of (rs := [2, 3]) Tryd.func37 rfl rfl rfl teOk rfl ?_
  refine acode_seq ?_
  refine acode_region ?_
  refine acode_seq ?_
  refine acode_region ?_
  refine acode_seq ?_
  refine acode_seq ?_
  refine acode_bld 0 5 (.int .u8) rfl ?_
  refine acode_region ?_
  intro l2_1
  try simp only [Int.toNat_natCast, dflt_sl, dflt_st, dflt_str, dflt_int, dflt_bool] at l2_1
  refine acode_block ?_
  refine acode_loopP (fun (x : Nat × Bool) => x.1 ≤ l.length ∧ ∀ f ∈ l.take x.1, checkF f = 0) (fun (x : Nat × Bool) => [(4, .one (.own 0 0)), (11, .one (.slk κ rFld l)), (12, ii .i64 l.length), (13, ii .i64 x.1)]) (fun (x : Nat × Bool) => [(0, .box 63 [.nself x.2 0, .vec 1]), (1, .vec 5 (.int .u8) (intsOf (bytes (foldL (l.take x.1)))))]) 2 (fun (x : Nat × Bool) => l.length - x.1) (0, false) (⟨Nat.zero_le _, by simp⟩) (le_of ⟨rfl, rfl, rfl, rfl⟩ ⟨rfl, rfl⟩ rfl) ?_
  intro ⟨i, u⟩ hI0
  simp only at hI0 ⊢
  obtain ⟨hi, hall⟩ := hI0
  refine acode_seq ?_
  refine acode_region ?_
  refine acode_seq ?_
  refine acode_cond rfl (fun h14 => ?_) (fun h14 => ?_)
  ·try simp only [decide_eq_true_eq] at h14
   try simp only [Int.toNat_natCast, dflt_sl, dflt_st, dflt_str, dflt_int, dflt_bool] at h14
   have hlt : i < l.length := by omega
   have hm := hl.2 _ (getD_mem hlt (ByteArray.empty, ByteArray.empty))
   have hfl : (foldL (l.take i)).length ≤ 1000 * 5000000 := by refine Nat.le_trans (flat_le textL 5000000 _ fun f hf => (text_len (hall f hf)).1) (Nat.mul_le_mul_right _ (by rw [List.length_take]; omega))
   refine acode_skip ?_
   refine acode_seq ?_
   refine acode_block ?_
   refine acode_seq ?_
   refine acode_region ?_
   refine And.intro (by first | omega | assumption | decide | (simp only [Int.toNat_natCast, dflt_sl, dflt_st, dflt_str, dflt_int, dflt_bool]; omega) | (simp <;> omega)) ?_
   refine acode_seq ?_
   rcases check_cases (l.getD i (ByteArray.empty, ByteArray.empty)) with hc|hc|hc
   ·refine acode_region ?_
    refine Or.inl ?_
    refine And.intro (rfl) ?_
    refine Exists.intro _ (And.intro ((by have := lines_c (l.getD i (ByteArray.empty, ByteArray.empty)) hm.1 hm.2; rw [linesA_bad hc (by decide)] at this; exact this)) ?_)
    refine acode_seq ?_
    refine acode_seq ?_
    refine acode_region ?_
    refine acode_cond rfl (fun h23 => ?_) (fun h23 => ?_)
    ·skip
     refine acode_seq ?_
     refine acode_region ?_
     refine acode_ret ?_
     have hb : badF l = 5 := by rw [badF_at (ByteArray.empty, ByteArray.empty) hlt hall (by rw [hc]; decide), hc]
     unfold foldA
     rw [if_neg (by rw [hb]; decide), hb]
     rfl
    ·try simp only [decide_eq_true_eq, decide_eq_false_iff_not, Bool.and_eq_true, Bool.not_eq_true', Bool.not_eq_false', Bool.or_eq_false_iff, Bool.or_eq_true, Bool.and_eq_false_iff, Int.not_lt, Int.not_le] at h23
     try simp only [Int.toNat_natCast, dflt_sl, dflt_st, dflt_str, dflt_int, dflt_bool] at h23
     cases h23
   ·refine acode_region ?_
    refine Or.inl ?_
    refine And.intro (rfl) ?_
    refine Exists.intro _ (And.intro ((by have := lines_c (l.getD i (ByteArray.empty, ByteArray.empty)) hm.1 hm.2; rw [linesA_bad hc (by decide)] at this; exact this)) ?_)
    refine acode_seq ?_
    refine acode_seq ?_
    refine acode_region ?_
    refine acode_cond rfl (fun h23 => ?_) (fun h23 => ?_)
    ·skip
     refine acode_seq ?_
     refine acode_region ?_
     refine acode_ret ?_
     have hb : badF l = 6 := by rw [badF_at (ByteArray.empty, ByteArray.empty) hlt hall (by rw [hc]; decide), hc]
     unfold foldA
     rw [if_neg (by rw [hb]; decide), hb]
     rfl
    ·try simp only [decide_eq_true_eq, decide_eq_false_iff_not, Bool.and_eq_true, Bool.not_eq_true', Bool.not_eq_false', Bool.or_eq_false_iff, Bool.or_eq_true, Bool.and_eq_false_iff, Int.not_lt, Int.not_le] at h23
     try simp only [Int.toNat_natCast, dflt_sl, dflt_st, dflt_str, dflt_int, dflt_bool] at h23
     cases h23
   ·refine acode_region ?_
    refine Or.inl ?_
    refine And.intro (rfl) ?_
    refine Exists.intro _ (And.intro ((by have := lines_c (l.getD i (ByteArray.empty, ByteArray.empty)) hm.1 hm.2; rw [linesA_ok hc] at this; exact this)) ?_)
    refine acode_seq ?_
    refine acode_seq ?_
    refine acode_region ?_
    refine acode_cond rfl (fun h23 => ?_) (fun h23 => ?_)
    ·try simp only [Bool.not_eq_true'] at h23
     try simp only [Int.toNat_natCast, dflt_sl, dflt_st, dflt_str, dflt_int, dflt_bool] at h23
     cases h23
    ·try simp only [Bool.not_eq_false'] at h23
     try simp only [Int.toNat_natCast, dflt_sl, dflt_st, dflt_str, dflt_int, dflt_bool] at h23
     obtain ⟨ps, hps⟩ : ∃ ps, lineB (l.getD i (ByteArray.empty, ByteArray.empty)).1 (l.getD i (ByteArray.empty, ByteArray.empty)).2 = ps := ⟨_, rfl⟩
     refine acode_skip ?_
     refine acode_seq ?_
     refine acode_region ?_
     intro l8_1
     try simp only [Int.toNat_natCast, dflt_sl, dflt_st, dflt_str, dflt_int, dflt_bool] at l8_1
     refine acode_block ?_
     refine acode_loopP (fun (y : Nat × Bool) => y.1 ≤ (lineB (l.getD i (ByteArray.empty, ByteArray.empty)).1 (l.getD i (ByteArray.empty, ByteArray.empty)).2).length) (fun (y : Nat × Bool) => [(4, .one (.own 0 0)), (11, .one (.slk κ rFld l)), (12, ii .i64 l.length), (13, ii .i64 i), (25, .one (.sl .str (lineB (l.getD i (ByteArray.empty, ByteArray.empty)).1 (l.getD i (ByteArray.empty, ByteArray.empty)).2))), (26, ii .i64 (lineB (l.getD i (ByteArray.empty, ByteArray.empty)).1 (l.getD i (ByteArray.empty, ByteArray.empty)).2).length), (27, ii .i64 y.1)]) (fun (y : Nat × Bool) => [(0, .box 63 [.nself y.2 0, .vec 1]), (1, .vec 5 (.int .u8) (intsOf (bytes (foldL (l.take i) ++ endL ((linesL (l.getD i (ByteArray.empty, ByteArray.empty)).1.data.toList (l.getD i (ByteArray.empty, ByteArray.empty)).2.data.toList).take y.1)))))]) 2 (fun (y : Nat × Bool) => (lineB (l.getD i (ByteArray.empty, ByteArray.empty)).1 (l.getD i (ByteArray.empty, ByteArray.empty)).2).length - y.1) (0, u) (Nat.zero_le _) (le_of ⟨rfl, rfl, rfl, rfl, rfl, rfl, rfl⟩ ⟨rfl, (vec_eq (by simp [endL]))⟩ rfl) ?_
     intro ⟨k, u2⟩ hI2
     simp only at hI2 ⊢
     have hk := hI2
     refine acode_seq ?_
     refine acode_region ?_
     refine acode_seq ?_
     refine acode_cond rfl (fun h28 => ?_) (fun h28 => ?_)
     ·try simp only [decide_eq_true_eq] at h28
      try simp only [Int.toNat_natCast, dflt_sl, dflt_st, dflt_str, dflt_int, dflt_bool] at h28
      have hlk : k < (lineB (l.getD i (ByteArray.empty, ByteArray.empty)).1 (l.getD i (ByteArray.empty, ByteArray.empty)).2).length := by omega
      have hg := lineB_get hlk
      have hlk2 : k < (linesL (l.getD i (ByteArray.empty, ByteArray.empty)).1.data.toList (l.getD i (ByteArray.empty, ByteArray.empty)).2.data.toList).length := by unfold lineB at hlk; rw [List.length_map] at hlk; exact hlk
      have hgs : ((lineB (l.getD i (ByteArray.empty, ByteArray.empty)).1 (l.getD i (ByteArray.empty, ByteArray.empty)).2).getD k ByteArray.empty).size ≤ 2000 := by rw [hg, bytes_size]; obtain ⟨_, h2, h3⟩ := check_ok hc; rw [size_list] at h2 h3; exact (line_len h3 h2).2 _ (getD_mem hlk2 _)
      have hen := (text_len hc).2 k
      refine acode_skip ?_
      refine acode_seq ?_
      refine acode_block ?_
      refine acode_seq ?_
      refine acode_region ?_
      refine And.intro (by first | omega | assumption | decide | (simp only [Int.toNat_natCast, dflt_sl, dflt_st, dflt_str, dflt_int, dflt_bool]; omega) | (simp <;> omega)) ?_
      refine acode_region ?_
      refine And.intro (by unfold maxLen; rw [Int.toNat_natCast]; exact Nat.le_trans (Nat.add_le_add_right hgs 1) (by decide)) ?_
      refine Or.inr (Or.inl (Exists.intro [] (Exists.intro [0, 1] (Exists.intro _ (Exists.intro _ (Exists.intro _ (Exists.intro _ (Exists.intro _ (And.intro (writeString_o _ _ _ (by rw [ints_len, List.length_append, ByteArray.size_append, Int.toNat_natCast, show ByteArray.size ⟨#[10]⟩ = 1 from rfl]; have := hgs; show _ + (((lineB (l.getD i (ByteArray.empty, ByteArray.empty)).1 (l.getD i (ByteArray.empty, ByteArray.empty)).2).getD k ByteArray.empty).size + 1) ≤ _; omega)) (And.intro rfl (And.intro (And.intro (And.intro rfl rfl) (And.intro (And.intro rfl rfl) True.intro)) (And.intro rfl ?_))))))))))))
      refine acode_region ?_
      refine And.intro (by first | omega | assumption | decide | (simp only [Int.toNat_natCast, dflt_sl, dflt_st, dflt_str, dflt_int, dflt_bool]; omega) | (simp <;> omega)) ?_
      exact ⟨(k + 1, true), (by simp only; omega), by first | omega | (simp <;> omega), le_of ⟨rfl, rfl, rfl, rfl, rfl, rfl, (ii_eq (by simp only; omega))⟩ ⟨rfl, (vec_eq (by simp only; rw [endL_snoc _ _ hlk2, ← List.append_assoc]; exact ints_add _ _ _ (by rw [bytes_app, ← hg]; rfl)))⟩ rfl⟩
     ·try simp only [decide_eq_false_iff_not, Int.not_lt] at h28
      try simp only [Int.toNat_natCast, dflt_sl, dflt_st, dflt_str, dflt_int, dflt_bool] at h28
      refine acode_exit ?_
      refine acode_region ?_
      refine And.intro (by first | omega | assumption | decide | (simp only [Int.toNat_natCast, dflt_sl, dflt_st, dflt_str, dflt_int, dflt_bool]; omega) | (simp <;> omega)) ?_
      exact ⟨(i + 1, u2), ⟨by simp only; omega, by simp only; rw [← take_snoc (ByteArray.empty, ByteArray.empty) hlt]; intro f hf; rcases List.mem_append.1 hf with h|h; exact hall f h; rw [List.mem_singleton.1 h]; exact hc⟩, by first | omega | (simp <;> omega), le_of ⟨rfl, rfl, rfl, (ii_eq (by simp only; omega))⟩ ⟨rfl, (vec_eq (by simp only; rw [foldL_snoc l i (ByteArray.empty, ByteArray.empty) hlt, show List.take k (linesL (l.getD i (ByteArray.empty, ByteArray.empty)).1.data.toList (l.getD i (ByteArray.empty, ByteArray.empty)).2.data.toList) = linesL (l.getD i (ByteArray.empty, ByteArray.empty)).1.data.toList (l.getD i (ByteArray.empty, ByteArray.empty)).2.data.toList from List.take_of_length_le (by unfold lineB at h28; rw [List.length_map] at h28; omega)]; rfl))⟩ rfl⟩
  ·try simp only [decide_eq_false_iff_not, Int.not_lt] at h14
   try simp only [Int.toNat_natCast, dflt_sl, dflt_st, dflt_str, dflt_int, dflt_bool] at h14
   refine acode_exit ?_
   refine acode_seq ?_
   refine acode_region ?_
   refine Or.inr (Or.inl (Exists.intro [] (Exists.intro [0, 1] (Exists.intro _ (Exists.intro _ (Exists.intro _ (Exists.intro _ (Exists.intro _ (And.intro (string_o _ _) (And.intro rfl (And.intro (And.intro (And.intro rfl rfl) (And.intro (And.intro rfl rfl) True.intro)) (And.intro rfl ?_))))))))))))
   refine acode_ret ?_
   rw [List.take_of_length_le (by omega)] at hall ⊢
   unfold foldA
   rw [if_pos (badF_ok hall)]
   rfl
end Q
end Ab
end Go.Proofs.YtlbainbjlibfiaaDoor
namespace Go.Proofs.YtlbainbjlibfiaaDoor
open Go.RowKit
namespace Ab
set_option maxRecDepth 100000
namespace Q
theorem lines_no {k v : List UInt8} (hk : keyOk k = true) : ∀ s ∈ linesL k v, 10 ∉ s := by
  have hno := parts_no v
  intro s hs
  obtain ⟨c, r, hkr, _, _, _, h10, _⟩ := keyOk_spec hk
  unfold linesL at hs
  rcases List.mem_cons.1 hs with rfl | hs
  · have h0 : 10 ∉ (partsL v).headD [] := by
      cases e : partsL v with
      | nil => exact absurd e (split_ne v [10])
      | cons p ps => rw [e] at hno; exact hno p (by simp)
    unfold firstL
    simp only [List.mem_append, not_or]
    refine ⟨⟨h10, by decide⟩, ?_⟩
    split
    · simp
    · simp only [List.mem_cons, not_or]; exact ⟨by decide, h0⟩
  · obtain ⟨q, hq, rfl⟩ := List.mem_map.1 hs
    simp only [List.mem_cons, not_or]
    exact ⟨by decide, stuff_no (hno q (List.mem_of_mem_drop hq))⟩
theorem fold_yes {κ : Nat} {l : List Fld} (hl : FldsOk l) (h : badF l = 0) : ACall Tryd.prog 37 [.one (.slk κ rFld l)] (.tup [(false, [.lit (.string (bytes (foldL l)))]), (false, [.lit .nilIface])]) := by
  have := fold_c (κ := κ) l hl; unfold foldA at this; rw [if_pos h] at this; exact this
end Q
end Ab
end Go.Proofs.YtlbainbjlibfiaaDoor
namespace Go.Proofs.YtlbainbjlibfiaaDoor
open Go.RowKit
namespace Ab
set_option maxRecDepth 100000
namespace Q
theorem join_snoc {ps : List (List UInt8)} (q sep : List UInt8) (h : ps ≠ []) : Lib.join (ps ++ [q]) sep = Lib.join ps sep ++ (sep ++ q) := by
  induction ps with
  | nil => exact absurd rfl h
  | cons p r ih =>
    cases r with
    | nil => rw [List.cons_append, List.nil_append, join_two, Lib.join_one, Lib.join_one]; simp
    | cons a b => rw [List.cons_append, List.cons_append, join_two, join_two, ← List.cons_append, ih (by simp)]; simp
theorem parts_of {ps : List (List UInt8)} (h : ps ≠ []) (hn : ∀ p ∈ ps, 10 ∉ p) : partsL (Lib.join ps [10]) = ps := split_join (by simp) ps h fun p hp => clean_one (hn p hp)
theorem parts_ne (l : List UInt8) : partsL l ≠ [] := split_ne l [10]
theorem parts_ten (l : List UInt8) : partsL (l ++ [10]) = partsL l ++ [[]] := by
  have : l ++ [10] = Lib.join (partsL l ++ [[]]) [10] := by rw [join_snoc _ _ (parts_ne l), parts_join]; simp
  rw [this]
  exact parts_of (by simp) fun p hp => by
    rcases List.mem_append.1 hp with h | h
    · exact parts_no l p h
    · rw [List.mem_singleton.1 h]; simp
theorem join_last (ps : List (List UInt8)) (q r : List UInt8) : Lib.join (ps ++ [q ++ r]) [10] = Lib.join (ps ++ [q]) [10] ++ r := by
  cases ps with
  | nil => simp [Lib.join_one]
  | cons a b => rw [join_snoc _ _ (by simp), join_snoc _ _ (by simp)]; simp
theorem parts_last (l : List UInt8) : ∃ ps q, partsL l = ps ++ [q] := by
  cases h : partsL l with
  | nil => exact absurd h (parts_ne l)
  | cons a b => exact ⟨(a :: b).dropLast, (a :: b).getLast (by simp), (List.dropLast_concat_getLast (by simp)).symm⟩
theorem parts_one (l : List UInt8) {c : UInt8} (hc : c ≠ 10) : partsL (l ++ [c]) = (partsL l).set ((partsL l).length - 1) ((partsL l).getD ((partsL l).length - 1) [] ++ [c]) := by
  obtain ⟨ps, q, e⟩ := parts_last l
  have hno := parts_no l
  have hj := parts_join l
  rw [e] at hj hno
  have e2 : (partsL l).set ((partsL l).length - 1) ((partsL l).getD ((partsL l).length - 1) [] ++ [c]) = ps ++ [q ++ [c]] := by rw [e]; simp
  rw [e2, ← hj, ← join_last]
  exact parts_of (by simp) fun p hp => by
    rcases List.mem_append.1 hp with h | h
    · exact hno p (by simp [h])
    · rw [List.mem_singleton.1 h]
      simp only [List.mem_append, List.mem_singleton, not_or]
      exact ⟨hno q (by simp), fun e => hc e.symm⟩
theorem parts_len (l : List UInt8) : (partsL l).length ≤ l.length + 1 := by
  have := split_len (bytes [10]) (bytes l) (by decide)
  have h2 := congrArg List.length (split_ls (bytes [10]) (bytes l))
  rw [List.length_map] at h2
  rw [h2] at this
  unfold ls at this
  rw [bytes_list, bytes_list, bytes_size] at this
  exact this
theorem part_size (l : List UInt8) {x : ByteArray} (h : x ∈ (partsL l).map bytes) : x.size ≤ l.length := by
  obtain ⟨p, hp, rfl⟩ := List.mem_map.1 h
  rw [bytes_size]; exact split_mem hp
theorem partB_one (l : List UInt8) {c : UInt8} (hc : c ≠ 10) (k : Nat) (hk : k = (partsL l).length - 1) : ((partsL l).map bytes).set k (((partsL l).map bytes).getD k Rd.str.dflt ++ bytes [c]) = (partsL (l ++ [c])).map bytes := by
  subst hk
  have hlt : (partsL l).length - 1 < (partsL l).length := by have := List.length_pos_iff.2 (parts_ne l); omega
  rw [parts_one l hc, List.map_set, bytes_app]
  congr 2
  rw [List.getD_eq_getElem?_getD, List.getElem?_map, List.getD_eq_getElem?_getD, List.getElem?_eq_getElem hlt]; rfl
def partB (s : ByteArray) : List ByteArray := (partsL s.data.toList).map bytes
theorem refParts_c (s : ByteArray) (hs : s.size ≤ 1000000) : ACall Tryd.prog 58 [is s] (.one (.sl .str (partB s))) := by
  have hz := size_list s
  refine acall_of (rs := [2]) Tryd.func58 rfl rfl rfl teOk rfl ?_
  refine acode_seq ?_
  refine acode_region ?_
  refine acode_seq ?_
  refine acode_region ?_
  refine acode_seq ?_
  refine acode_seq ?_
  refine acode_region ?_
  refine acode_block ?_
  refine acode_loopP (fun (i : Nat) => i ≤ s.size) (fun (i : Nat) => [(0, is s), (3, .one (.vec 0)), (4, ii .i64 i)]) (fun (i : Nat) => [(0, .vec 9 .str ((partsL (s.data.toList.take i)).map bytes))]) 1 (fun (i : Nat) => s.size - i) 0 (Nat.zero_le _) (le_of ⟨rfl, rfl, rfl⟩ (vec_eq rfl) rfl) ?_
  intro i hI0
  have hi := hI0
  refine acode_seq ?_
  refine acode_seq ?_
  refine acode_region ?_
  refine acode_cond rfl (fun h9 => ?_) (fun h9 => ?_)
  ·try simp only [decide_eq_true_eq] at h9
   try simp only [Int.toNat_natCast, dflt_sl, dflt_st, dflt_str, dflt_int, dflt_bool] at h9
   have hlt : i < s.data.toList.length := by omega
   have hpl := parts_len (s.data.toList.take i)
   have hti : (s.data.toList.take i).length ≤ i := by rw [List.length_take]; omega
   refine acode_skip ?_
   refine acode_seq ?_
   refine acode_block ?_
   refine acode_seq ?_
   refine acode_region ?_
   refine And.intro (by first | omega | assumption | decide | (simp only [Int.toNat_natCast, dflt_sl, dflt_st, dflt_str, dflt_int, dflt_bool]; omega) | (simp <;> omega)) ?_
   refine acode_cond rfl (fun h15 => ?_) (fun h15 => ?_)
   ·try simp only [decide_eq_true_eq] at h15
    try simp only [Int.toNat_natCast] at h15
    refine acode_region ?_
    refine And.intro (by show (_ + 1) * 16 ≤ 140737488355328; rw [List.length_map]; omega) ?_
    refine acode_region ?_
    refine And.intro (by first | omega | assumption | decide | (simp only [Int.toNat_natCast, dflt_sl, dflt_st, dflt_str, dflt_int, dflt_bool]; omega) | (simp <;> omega)) ?_
    exact ⟨i + 1, by omega, by first | omega | (simp <;> omega), le_of ⟨rfl, rfl, (ii_eq (by omega))⟩ (vec_eq (by rw [← take_snoc 0 hlt, show s.data.toList.getD i 0 = 10 from u8_eq h15, parts_ten, List.map_append]; rfl)) rfl⟩
   ·try simp only [decide_eq_false_iff_not] at h15
    try simp only [Int.toNat_natCast] at h15
    have hp1 := List.length_pos_iff.2 (parts_ne (s.data.toList.take i))
    have hmp : ((partsL (s.data.toList.take i)).map bytes).length = (partsL (s.data.toList.take i)).length := List.length_map _
    have hx : s.extract (i : Int).toNat ((i : Int) + 1).toNat = bytes [s.data.toList.getD i 0] := by rw [Int.toNat_natCast, show ((i : Int) + 1).toNat = i + 1 by omega, extract_one hlt]
    have hx1 : (s.extract (i : Int).toNat ((i : Int) + 1).toNat).size = 1 := by rw [hx]; rfl
    have hes : (((partsL (s.data.toList.take i)).map bytes).getD ((((partsL (s.data.toList.take i)).map bytes).length : Int) - 1).toNat Rd.str.dflt).size ≤ 1000000 := Nat.le_trans (part_size _ (getD_mem (by omega) _)) (by omega)
    refine acode_ord rfl ?_
    refine aord_light 0 rfl rfl rfl (by kernel_rfl) ?_
    refine aord_light 1 rfl rfl rfl (by kernel_rfl) ?_
    refine aord_light 4 rfl rfl rfl (by kernel_rfl) ?_
    refine aord_light 5 rfl rfl rfl (by kernel_rfl) ?_
    refine aord_light 10 rfl rfl rfl (by kernel_rfl) ?_
    refine aord_light 11 rfl rfl rfl (by kernel_rfl) ?_
    refine aord_light 12 rfl rfl rfl (by kernel_rfl) ?_
    refine aord_light 13 rfl rfl rfl (by kernel_rfl) ?_
    refine And.intro (by first | omega | assumption | decide | (simp only [Int.toNat_natCast, dflt_sl, dflt_st, dflt_str, dflt_int, dflt_bool]; omega) | (simp <;> omega)) ?_
    refine aord_light 14 rfl rfl rfl (by kernel_rfl) ?_
    refine And.intro (by first | omega | assumption | decide | (simp only [Int.toNat_natCast, dflt_sl, dflt_st, dflt_str, dflt_int, dflt_bool]; omega) | (simp <;> omega)) ?_
    refine aord_all [2, 6] (by kernel_rfl) rfl ?_
    refine And.intro ?_ ?_
    ·intro l7_2
     try simp only [Int.toNat_natCast, dflt_sl, dflt_st, dflt_str, dflt_int, dflt_bool] at l7_2
     refine aord_light 3 rfl rfl rfl (by kernel_rfl) ?_
     refine And.intro (by first | omega | assumption | decide | (simp only [Int.toNat_natCast, dflt_sl, dflt_st, dflt_str, dflt_int, dflt_bool]; omega) | (simp <;> omega)) ?_
     refine aord_all [6] (by kernel_rfl) rfl ?_
     intro l7_6
     try simp only [Int.toNat_natCast, dflt_sl, dflt_st, dflt_str, dflt_int, dflt_bool] at l7_6
     refine aord_light 7 rfl rfl rfl (by kernel_rfl) ?_
     refine And.intro (by first | omega | assumption | decide | (simp only [Int.toNat_natCast, dflt_sl, dflt_st, dflt_str, dflt_int, dflt_bool]; omega) | (simp <;> omega)) ?_
     refine aord_light 8 rfl rfl rfl (by kernel_rfl) ?_
     refine And.intro (by first | omega | assumption | decide | (simp only [Int.toNat_natCast, dflt_sl, dflt_st, dflt_str, dflt_int, dflt_bool]; omega) | (simp <;> omega)) ?_
     refine aord_all [9] (by kernel_rfl) rfl ?_
     refine And.intro (by omega) ?_
     refine aord_light 15 rfl rfl rfl (by kernel_rfl) ?_
     refine And.intro (by first | omega | (simp only [ByteArray.size_append]; omega) | (unfold maxLen; (try simp only [ByteArray.size_append]); omega)) ?_
     refine aord_light 16 rfl rfl rfl (by kernel_rfl) ?_
     refine And.intro (by first | omega | assumption | decide | (simp only [Int.toNat_natCast, dflt_sl, dflt_st, dflt_str, dflt_int, dflt_bool]; omega) | (simp <;> omega)) ?_
     refine aord_all [17] (by kernel_rfl) rfl ?_
     refine And.intro (by omega) ?_
     refine aord_done (by kernel_rfl) ?_
     refine acode_region ?_
     refine And.intro (by first | omega | assumption | decide | (simp only [Int.toNat_natCast, dflt_sl, dflt_st, dflt_str, dflt_int, dflt_bool]; omega) | (simp <;> omega)) ?_
     exact ⟨i + 1, by omega, by first | omega | (simp <;> omega), le_of ⟨rfl, rfl, (ii_eq (by omega))⟩ (vec_eq (by rw [hx, ← take_snoc 0 hlt]; exact partB_one _ (fun e => h15 (by rw [e]; rfl)) _ (by omega))) rfl⟩
    ·intro l7_6
     try simp only [Int.toNat_natCast, dflt_sl, dflt_st, dflt_str, dflt_int, dflt_bool] at l7_6
     refine aord_light 7 rfl rfl rfl (by kernel_rfl) ?_
     refine And.intro (by first | omega | assumption | decide | (simp only [Int.toNat_natCast, dflt_sl, dflt_st, dflt_str, dflt_int, dflt_bool]; omega) | (simp <;> omega)) ?_
     refine aord_light 8 rfl rfl rfl (by kernel_rfl) ?_
     refine And.intro (by first | omega | assumption | decide | (simp only [Int.toNat_natCast, dflt_sl, dflt_st, dflt_str, dflt_int, dflt_bool]; omega) | (simp <;> omega)) ?_
     refine aord_all [2, 9] (by kernel_rfl) rfl ?_
     refine And.intro ?_ ?_
     ·intro l7_2
      try simp only [Int.toNat_natCast, dflt_sl, dflt_st, dflt_str, dflt_int, dflt_bool] at l7_2
      refine aord_light 3 rfl rfl rfl (by kernel_rfl) ?_
      refine And.intro (by first | omega | assumption | decide | (simp only [Int.toNat_natCast, dflt_sl, dflt_st, dflt_str, dflt_int, dflt_bool]; omega) | (simp <;> omega)) ?_
      refine aord_all [9] (by kernel_rfl) rfl ?_
      refine And.intro (by omega) ?_
      refine aord_light 15 rfl rfl rfl (by kernel_rfl) ?_
      refine And.intro (by first | omega | (simp only [ByteArray.size_append]; omega) | (unfold maxLen; (try simp only [ByteArray.size_append]); omega)) ?_
      refine aord_light 16 rfl rfl rfl (by kernel_rfl) ?_
      refine And.intro (by first | omega | assumption | decide | (simp only [Int.toNat_natCast, dflt_sl, dflt_st, dflt_str, dflt_int, dflt_bool]; omega) | (simp <;> omega)) ?_
      refine aord_all [17] (by kernel_rfl) rfl ?_
      refine And.intro (by omega) ?_
      refine aord_done (by kernel_rfl) ?_
      refine acode_region ?_
      refine And.intro (by first | omega | assumption | decide | (simp only [Int.toNat_natCast, dflt_sl, dflt_st, dflt_str, dflt_int, dflt_bool]; omega) | (simp <;> omega)) ?_
      exact ⟨i + 1, by omega, by first | omega | (simp <;> omega), le_of ⟨rfl, rfl, (ii_eq (by omega))⟩ (vec_eq (by rw [hx, ← take_snoc 0 hlt]; exact partB_one _ (fun e => h15 (by rw [e]; rfl)) _ (by omega))) rfl⟩
     ·refine And.intro (by omega) ?_
      refine aord_light 15 rfl rfl rfl (by kernel_rfl) ?_
      refine And.intro (by first | omega | (simp only [ByteArray.size_append]; omega) | (unfold maxLen; (try simp only [ByteArray.size_append]); omega)) ?_
      refine aord_all [2] (by kernel_rfl) rfl ?_
      intro l7_2
      try simp only [Int.toNat_natCast, dflt_sl, dflt_st, dflt_str, dflt_int, dflt_bool] at l7_2
      refine aord_light 3 rfl rfl rfl (by kernel_rfl) ?_
      refine And.intro (by first | omega | assumption | decide | (simp only [Int.toNat_natCast, dflt_sl, dflt_st, dflt_str, dflt_int, dflt_bool]; omega) | (simp <;> omega)) ?_
      refine aord_light 16 rfl rfl rfl (by kernel_rfl) ?_
      refine And.intro (by first | omega | assumption | decide | (simp only [Int.toNat_natCast, dflt_sl, dflt_st, dflt_str, dflt_int, dflt_bool]; omega) | (simp <;> omega)) ?_
      refine aord_all [17] (by kernel_rfl) rfl ?_
      refine And.intro (by omega) ?_
      refine aord_done (by kernel_rfl) ?_
      refine acode_region ?_
      refine And.intro (by first | omega | assumption | decide | (simp only [Int.toNat_natCast, dflt_sl, dflt_st, dflt_str, dflt_int, dflt_bool]; omega) | (simp <;> omega)) ?_
      exact ⟨i + 1, by omega, by first | omega | (simp <;> omega), le_of ⟨rfl, rfl, (ii_eq (by omega))⟩ (vec_eq (by rw [hx, ← take_snoc 0 hlt]; exact partB_one _ (fun e => h15 (by rw [e]; rfl)) _ (by omega))) rfl⟩
  ·try simp only [decide_eq_false_iff_not, Int.not_lt] at h9
   try simp only [Int.toNat_natCast, dflt_sl, dflt_st, dflt_str, dflt_int, dflt_bool] at h9
   refine acode_exit ?_
   refine acode_seq ?_
   refine acode_region ?_
   refine acode_ret ?_
   exact sl_eq (by rw [List.take_of_length_le (by omega)]; rfl)
theorem refParts_v (s : ByteArray) (ws : List ByteArray) (h : partB s = ws) (hs : s.size ≤ 1000000) : ACall Tryd.prog 58 [is s] (.one (.sl .str ws)) := by
  subst h; exact refParts_c s hs
theorem kind_bare {p : List UInt8} (h : 10 ∉ p) : kindL p = 1 ↔ p.all blankC = true := by
  unfold kindL
  rw [if_neg h]
  split
  · rename_i h2; exact ⟨fun _ => h2, fun _ => rfl⟩
  · rename_i h2
    refine ⟨fun h3 => ?_, fun h3 => absurd h3 h2⟩
    split at h3
    · cases h3
    · split at h3
      · cases h3
      · split at h3 <;> cases h3
theorem stuff_yes {p : List UInt8} (h : 10 ∉ p) (hk : kindL p = 1 ∨ p.getD 0 0 = 46) : stuffL p = 46 :: p := by
  unfold stuffL
  rw [if_pos]
  rw [hasPrefix_one]
  rcases hk with hk | hk
  · rw [(kind_bare h).1 hk]; rfl
  · cases p with
    | nil => rfl
    | cons a b => simp only [List.getD_cons_zero] at hk; rw [hk]; simp
theorem stuff_not {p : List UInt8} (h : 10 ∉ p) (hk : kindL p ≠ 1) (hd : p.getD 0 0 ≠ 46) : stuffL p = p := by
  unfold stuffL
  rw [if_neg]
  rw [hasPrefix_one, decide_eq_false hd, Bool.and_false, Bool.or_false]
  exact fun e => hk ((kind_bare h).2 e)
theorem refKind_v (s : ByteArray) (n : Int) (h : kindL s.data.toList = n) (hs : s.size ≤ 1000000000) : ACall Tryd.prog 59 [is s] (ii .i64 n) := by
  subst h; exact refKind_c s hs
theorem kind_pos {s : ByteArray} (h : 10 ∉ s.data.toList) (hk : ¬ kindL s.data.toList = 1) : 0 < s.size := by
  refine Nat.pos_of_ne_zero fun e => hk ((kind_bare h).2 ?_)
  rw [size_list] at e
  rw [List.eq_nil_of_length_eq_zero e]; rfl
theorem ref_dot {s : ByteArray} (h : 10 ∉ s.data.toList) (hk : kindL s.data.toList = 1 ∨ s.data.toList.getD 0 0 = 46) : (⟨#[32, 46]⟩ : ByteArray) ++ s = bytes (32 :: stuffL s.data.toList) := by
  rw [stuff_yes h hk, show (32 :: 46 :: s.data.toList) = [32, 46] ++ s.data.toList from rfl, bytes_app, show bytes s.data.toList = s from bytes_ls s]; rfl
theorem ref_bare {s : ByteArray} (h : 10 ∉ s.data.toList) (hk : ¬ kindL s.data.toList = 1) (hd : ¬ s.data.toList.getD 0 0 = 46) : (⟨#[32]⟩ : ByteArray) ++ s = bytes (32 :: stuffL s.data.toList) := by
  rw [stuff_not h hk hd, show (32 :: s.data.toList) = [32] ++ s.data.toList from rfl, bytes_app, show bytes s.data.toList = s from bytes_ls s]; rfl
theorem refLines_c (f : Fld) (hk : f.1.size ≤ 1000000) (hv : f.2.size ≤ 1000000) : ACall Tryd.prog 45 [.agg (toL rFld f)] (.one (.sl .str (lineB f.1 f.2))) := by
  obtain ⟨ws, hws⟩ : ∃ ws, partB f.2 = ws := ⟨_, rfl⟩
  have hsz : ∀ x ∈ ws, x.size ≤ 1000000 := fun x hx => Nat.le_trans (part_size _ (hws ▸ hx)) (by rw [← size_list]; exact hv)
  have hno : ∀ x ∈ ws, 10 ∉ x.data.toList := fun x hx => by
    rw [← hws] at hx
    obtain ⟨p, hp, rfl⟩ := List.mem_map.1 hx
    rw [bytes_list]; exact parts_no _ p hp
  have hsp : ws.map ls = partsL f.2.data.toList := by
    rw [← hws]; unfold partB
    rw [List.map_map]
    conv => rhs; rw [← List.map_id (partsL f.2.data.toList)]
    exact List.map_congr_left fun s _ => bytes_list s
  have hpos : 0 < ws.length := by
    rw [← List.length_map (f := ls), hsp]
    exact List.length_pos_iff.2 (parts_ne _)
  have hlen : ws.length ≤ 1000001 := by
    rw [← List.length_map (f := ls), hsp]
    have := parts_len f.2.data.toList
    rw [← size_list] at this; omega
  have hdl : (ws.drop 1).length = ws.length - 1 := List.length_drop
  obtain ⟨p0, hp0⟩ : ∃ p, ws.getD 0 ByteArray.empty = p := ⟨_, rfl⟩
  have hp0s : p0.size ≤ 1000000 := by rw [← hp0]; exact hsz _ (getD_mem hpos _)
  have h58 : ByteArray.size ⟨#[58]⟩ = 1 := rfl
  have h32 : ByteArray.size ⟨#[32]⟩ = 1 := rfl
  have h3246 : ByteArray.size ⟨#[32, 46]⟩ = 2 := rfl
  have hp0r : (ws.getD (Int.toNat 0) Rd.str.dflt).size ≤ 1000000 := hsz _ (getD_mem hpos _)
  refine acall_of (rs := [2]) Tryd.func45 rfl rfl rfl teOk rfl ?_
  refine acode_seq ?_
  refine acode_region ?_
  refine acode_seq ?_
  refine acode_region ?_
  refine Or.inl ?_
  refine And.intro (rfl) ?_
  refine Exists.intro _ (And.intro (refParts_v f.2 ws hws hv) ?_)
  refine acode_seq ?_
  refine acode_region ?_
  refine And.intro (by (have hk0 : ByteArray.size { data := #[58] } = 1 := rfl; first | (unfold maxLen; omega) | (simp only [ByteArray.size_append]; omega) | (unfold maxLen; (try simp only [ByteArray.size_append]); omega))) ?_
  refine acode_cut (fun (u : Unit) => True) (fun (u : Unit) => [(3, .one (.sl .str ws)), (4, is (bytes (firstL f.1.data.toList p0.data.toList)))]) (fun (u : Unit) => []) 1 ?_ ?_
  ·refine acode_seq ?_
   refine acode_region ?_
   refine And.intro (by first | omega | assumption | decide | (simp only [Int.toNat_natCast, dflt_sl, dflt_st, dflt_str, dflt_int, dflt_bool]; omega) | (simp <;> omega)) ?_
   refine acode_cond rfl (fun h16 => ?_) (fun h16 => ?_)
   ·try simp only [decide_eq_false_iff_not, Bool.not_eq_true'] at h16
    try simp only [dflt_str] at h16
    refine acode_region ?_
    refine And.intro (by (have hk0 : ByteArray.size { data := #[32] } = 1 := rfl; first | (unfold maxLen; omega) | (simp only [ByteArray.size_append]; omega) | (unfold maxLen; (try simp only [ByteArray.size_append]); omega))) ?_
    refine And.intro (by first | omega | assumption | decide | (simp only [Int.toNat_natCast, dflt_sl, dflt_st, dflt_str, dflt_int, dflt_bool]; omega) | (simp <;> omega)) ?_
    refine And.intro (by (have hk0 : ByteArray.size { data := #[32] } = 1 := rfl; first | (unfold maxLen; omega) | (simp only [ByteArray.size_append]; omega) | (unfold maxLen; (try simp only [ByteArray.size_append]); omega))) ?_
    exact ⟨(), trivial, le_of ⟨rfl, (is_eq (by rw [← hp0, ByteArray.append_assoc]; exact first_b _ _ h16))⟩ trivial rfl⟩
   ·try simp only [decide_eq_true_eq, Bool.not_eq_false'] at h16
    try simp only [dflt_str] at h16
    refine acode_skip ?_
    exact ⟨(), trivial, le_of ⟨rfl, (is_eq (by rw [← hp0]; exact first_e _ _ h16))⟩ trivial rfl⟩
  ·intro u hcut5
   refine acode_seq ?_
   refine acode_region ?_
   refine acode_seq ?_
   refine acode_seq ?_
   refine acode_region ?_
   refine acode_block ?_
   refine acode_loopP (fun (i : Nat) => i ≤ (ws.drop 1).length) (fun (i : Nat) => [(3, .one (.sl .str ws)), (5, .one (.vec 1)), (6, ii .i64 ((i : Int) + 1))]) (fun (i : Nat) => [(1, .vec 9 .str (bytes (firstL f.1.data.toList p0.data.toList) :: ((ws.drop 1).take i).map fun s => bytes (32 :: stuffL s.data.toList)))]) 2 (fun (i : Nat) => (ws.drop 1).length - i) 0 (Nat.zero_le _) (le_of ⟨rfl, rfl, rfl⟩ rfl rfl) ?_
   intro i hI0
   have hi := hI0
   refine acode_seq ?_
   refine acode_seq ?_
   refine acode_region ?_
   intro l7_2
   try simp only [Int.toNat_natCast, dflt_sl, dflt_st, dflt_str, dflt_int, dflt_bool] at l7_2
   refine acode_cond rfl (fun h28 => ?_) (fun h28 => ?_)
   ·try simp only [decide_eq_true_eq] at h28
    try simp only [Int.toNat_natCast, dflt_sl, dflt_st, dflt_str, dflt_int, dflt_bool] at h28
    have hlt : i + 1 < ws.length := by omega
    have hxm : ws.getD ((i : Int) + 1).toNat Rd.str.dflt ∈ ws := getD_mem (by omega) _
    have hxs := hsz _ hxm
    refine acode_skip ?_
    refine acode_seq ?_
    refine acode_block ?_
    refine acode_seq ?_
    refine acode_region ?_
    refine And.intro (by first | omega | assumption | decide | (simp only [Int.toNat_natCast, dflt_sl, dflt_st, dflt_str, dflt_int, dflt_bool]; omega) | (simp <;> omega)) ?_
    refine Or.inl ?_
    refine And.intro (rfl) ?_
    refine Exists.intro _ (And.intro (refKind_v _ _ rfl (by omega)) ?_)
    refine And.intro (fun h => trivial) ?_
    refine And.intro (fun h => trivial) ?_
    refine And.intro (fun h => ⟨⟨⟨h, trivial⟩, ⟨h, trivial⟩, trivial⟩, by first | omega | decide | (simp only [Int.toNat_natCast, dflt_sl, dflt_st, dflt_str, dflt_int, dflt_bool]; omega) | (have h9 := of_decide_eq_true h; omega) | (simp [gq] at h; omega)⟩) ?_
    refine And.intro (fun h => ⟨⟨h, trivial⟩, trivial⟩) ?_
    refine And.intro (fun h => ⟨⟨⟨h, trivial⟩, trivial⟩, by have h7 := kind_pos (hno _ hxm) (of_decide_eq_false (by simpa [gq] using h)); omega⟩) ?_
    refine And.intro (fun h => ⟨⟨h, trivial⟩, trivial⟩) ?_
    refine And.intro (by first | (intro h; rw [h]; rfl) | (intro h; cases h)) ?_
    refine acode_cond rfl (fun h44 => ?_) (fun h44 => ?_)
    ·try simp only [decide_eq_true_eq, Bool.or_eq_true] at h44
     try simp only [dflt_str] at h44
     refine acode_region ?_
     refine And.intro (by first | omega | assumption | decide | (simp only [Int.toNat_natCast, dflt_sl, dflt_st, dflt_str, dflt_int, dflt_bool]; omega) | (simp <;> omega)) ?_
     refine And.intro (by (have hk0 : ByteArray.size { data := #[32, 46] } = 2 := rfl; first | (unfold maxLen; omega) | (simp only [ByteArray.size_append]; omega) | (unfold maxLen; (try simp only [ByteArray.size_append]); omega))) ?_
     refine And.intro (by first | exact app_le (by first | omega | (simp only [List.length_cons, List.length_nil, List.length_map, List.length_take, List.length_drop]; omega) | (simp; omega)) (by decide) | omega | assumption | decide | (simp only [Int.toNat_natCast, dflt_sl, dflt_st, dflt_str, dflt_int, dflt_bool]; omega) | (simp <;> omega)) ?_
     refine acode_region ?_
     refine And.intro (by first | omega | assumption | decide | (simp only [Int.toNat_natCast, dflt_sl, dflt_st, dflt_str, dflt_int, dflt_bool]; omega) | (simp <;> omega)) ?_
     exact ⟨i + 1, by omega, by first | omega | (simp <;> omega), le_of ⟨rfl, rfl, (ii_eq (by omega))⟩ (vec_eq (map_next (fun s : ByteArray => bytes (32 :: stuffL s.data.toList)) ByteArray.empty (by omega) _ (by rw [drop_getD]; exact ref_dot (hno _ hxm) (h44.imp id (fun e => u8_eq (b := 46) e))) [_])) rfl⟩
    ·try simp only [decide_eq_false_iff_not, Bool.or_eq_false_iff] at h44
     try simp only [dflt_str] at h44
     refine acode_region ?_
     refine And.intro (by first | omega | assumption | decide | (simp only [Int.toNat_natCast, dflt_sl, dflt_st, dflt_str, dflt_int, dflt_bool]; omega) | (simp <;> omega)) ?_
     refine And.intro (by (have hk0 : ByteArray.size { data := #[32] } = 1 := rfl; first | (unfold maxLen; omega) | (simp only [ByteArray.size_append]; omega) | (unfold maxLen; (try simp only [ByteArray.size_append]); omega))) ?_
     refine And.intro (by first | exact app_le (by first | omega | (simp only [List.length_cons, List.length_nil, List.length_map, List.length_take, List.length_drop]; omega) | (simp; omega)) (by decide) | omega | assumption | decide | (simp only [Int.toNat_natCast, dflt_sl, dflt_st, dflt_str, dflt_int, dflt_bool]; omega) | (simp <;> omega)) ?_
     refine acode_region ?_
     refine And.intro (by first | omega | assumption | decide | (simp only [Int.toNat_natCast, dflt_sl, dflt_st, dflt_str, dflt_int, dflt_bool]; omega) | (simp <;> omega)) ?_
     exact ⟨i + 1, by omega, by first | omega | (simp <;> omega), le_of ⟨rfl, rfl, (ii_eq (by omega))⟩ (vec_eq (map_next (fun s : ByteArray => bytes (32 :: stuffL s.data.toList)) ByteArray.empty (by omega) _ (by rw [drop_getD]; exact ref_bare (hno _ hxm) h44.1 (fun e => h44.2 (by rw [show (ws.getD ((i : Int) + 1).toNat ByteArray.empty).data.toList.getD (Int.toNat 0) 0 = 46 from e]; rfl))) [_])) rfl⟩
   ·try simp only [decide_eq_false_iff_not, Int.not_lt] at h28
    try simp only [Int.toNat_natCast, dflt_sl, dflt_st, dflt_str, dflt_int, dflt_bool] at h28
    refine acode_exit ?_
    refine acode_seq ?_
    refine acode_region ?_
    refine acode_ret ?_
    exact sl_eq (by rw [List.take_of_length_le (by omega), ← lineB_eq hsp hpos, hp0])
end Q
end Ab
end Go.Proofs.YtlbainbjlibfiaaDoor
namespace Go.Proofs.YtlbainbjlibfiaaDoor
open Go.RowKit
namespace Ab
set_option maxRecDepth 100000
namespace Q
theorem tlines {k v : ByteArray} : (lineB k v).length = (linesL k.data.toList v.data.toList).length := by unfold lineB; rw [List.length_map]
theorem text_step (x e p : List UInt8) (g : ByteArray) (hg : g = bytes p) : bytes (x ++ e) ++ g ++ ⟨#[10]⟩ = bytes (x ++ (e ++ (p ++ [10]))) := by
  rw [hg, ← List.append_assoc, ← List.append_assoc, bytes_app _ [10], bytes_app _ p]; rfl
theorem refFold_c (l : List Fld) (hl : ∀ f ∈ l, checkF f = 0) (hn : l.length ≤ 1000) : ACall Tryd.prog 34 [.one (.sl rFld l)] (is (bytes (foldL l))) := by
  refine acall_of (rs := [2]) Tryd.func34 rfl rfl rfl teOk rfl ?_
  refine acode_seq ?_
  refine acode_region ?_
  refine acode_seq ?_
  refine acode_region ?_
  refine acode_seq ?_
  refine acode_seq ?_
  refine acode_region ?_
  refine acode_block ?_
  refine acode_loopP (fun (i : Nat) => i ≤ l.length) (fun (i : Nat) => [(0, .one (.sl rFld l)), (3, is (bytes (foldL (l.take i)))), (4, ii .i64 i)]) (fun (i : Nat) => []) 0 (fun (i : Nat) => l.length - i) 0 (Nat.zero_le _) (le_of ⟨rfl, rfl, rfl⟩ trivial rfl) ?_
  intro i hI0
  have hi := hI0
  refine acode_seq ?_
  refine acode_seq ?_
  refine acode_region ?_
  intro l3_2
  try simp only [Int.toNat_natCast, dflt_sl, dflt_st, dflt_str, dflt_int, dflt_bool] at l3_2
  refine acode_cond rfl (fun h10 => ?_) (fun h10 => ?_)
  ·try simp only [decide_eq_true_eq] at h10
   try simp only [Int.toNat_natCast, dflt_sl, dflt_st, dflt_str, dflt_int, dflt_bool] at h10
   have hlt : i < l.length := by omega
   have hm := hl _ (getD_mem hlt (ByteArray.empty, ByteArray.empty))
   have hco := check_ok hm
   have hfl : (foldL (l.take i)).length ≤ 1000 * 5000000 := by refine Nat.le_trans (flat_le textL 5000000 _ fun f hf => (text_len (hl f (List.mem_of_mem_take hf))).1) (Nat.mul_le_mul_right _ (by rw [List.length_take]; omega))
   refine acode_skip ?_
   refine acode_seq ?_
   refine acode_block ?_
   refine acode_seq ?_
   refine acode_region ?_
   refine And.intro (by first | omega | assumption | decide | (simp only [Int.toNat_natCast, dflt_sl, dflt_st, dflt_str, dflt_int, dflt_bool]; omega) | (simp <;> omega)) ?_
   refine Or.inl ?_
   refine And.intro (rfl) ?_
   refine Exists.intro _ (And.intro (refLines_c (l.getD i (ByteArray.empty, ByteArray.empty)) (by omega) (by omega)) ?_)
   intro l5_5
   try simp only [Int.toNat_natCast, dflt_sl, dflt_st, dflt_str, dflt_int, dflt_bool] at l5_5
   refine acode_block ?_
   refine acode_loopP (fun (k : Nat) => k ≤ (lineB (l.getD i (ByteArray.empty, ByteArray.empty)).1 (l.getD i (ByteArray.empty, ByteArray.empty)).2).length) (fun (k : Nat) => [(0, .one (.sl rFld l)), (3, is (bytes (foldL (l.take i) ++ endL ((linesL (l.getD i (ByteArray.empty, ByteArray.empty)).1.data.toList (l.getD i (ByteArray.empty, ByteArray.empty)).2.data.toList).take k)))), (4, ii .i64 i), (17, .one (.sl .str (lineB (l.getD i (ByteArray.empty, ByteArray.empty)).1 (l.getD i (ByteArray.empty, ByteArray.empty)).2))), (18, ii .i64 (lineB (l.getD i (ByteArray.empty, ByteArray.empty)).1 (l.getD i (ByteArray.empty, ByteArray.empty)).2).length), (19, ii .i64 k)]) (fun (k : Nat) => []) 0 (fun (k : Nat) => (lineB (l.getD i (ByteArray.empty, ByteArray.empty)).1 (l.getD i (ByteArray.empty, ByteArray.empty)).2).length - k) 0 (Nat.zero_le _) (le_of ⟨rfl, (is_eq (by simp [endL])), rfl, rfl, rfl, rfl⟩ trivial rfl) ?_
   intro k hI2
   have hk := hI2
   refine acode_seq ?_
   refine acode_region ?_
   refine acode_seq ?_
   refine acode_cond rfl (fun h20 => ?_) (fun h20 => ?_)
   ·try simp only [decide_eq_true_eq] at h20
    try simp only [Int.toNat_natCast, dflt_sl, dflt_st, dflt_str, dflt_int, dflt_bool] at h20
    have hlk : k < (lineB (l.getD i (ByteArray.empty, ByteArray.empty)).1 (l.getD i (ByteArray.empty, ByteArray.empty)).2).length := by omega
    have hg := lineB_get hlk
    have hlk2 : k < (linesL (l.getD i (ByteArray.empty, ByteArray.empty)).1.data.toList (l.getD i (ByteArray.empty, ByteArray.empty)).2.data.toList).length := by rw [tlines] at hlk; exact hlk
    have hgs : ((lineB (l.getD i (ByteArray.empty, ByteArray.empty)).1 (l.getD i (ByteArray.empty, ByteArray.empty)).2).getD k ByteArray.empty).size ≤ 2000 := by rw [hg, bytes_size]; have h2 := hco.2.1; have h3 := hco.2.2; rw [size_list] at h2 h3; exact (line_len h3 h2).2 _ (getD_mem hlk2 _)
    have hen := (text_len hm).2 k
    have h10 : ByteArray.size ⟨#[10]⟩ = 1 := rfl
    have hps : (bytes (foldL (l.take i) ++ endL ((linesL (l.getD i (ByteArray.empty, ByteArray.empty)).1.data.toList (l.getD i (ByteArray.empty, ByteArray.empty)).2.data.toList).take k))).size ≤ 6000000000 := by rw [bytes_size, List.length_append]; omega
    have hgs' : ((lineB (l.getD i (ByteArray.empty, ByteArray.empty)).1 (l.getD i (ByteArray.empty, ByteArray.empty)).2).getD (k : Int).toNat Rd.str.dflt).size ≤ 2000 := hgs
    refine acode_skip ?_
    refine acode_seq ?_
    refine acode_block ?_
    refine acode_seq ?_
    refine acode_region ?_
    refine And.intro (by first | omega | assumption | decide | (simp only [Int.toNat_natCast, dflt_sl, dflt_st, dflt_str, dflt_int, dflt_bool]; omega) | (simp <;> omega)) ?_
    refine acode_region ?_
    refine And.intro (by first | omega | (simp only [ByteArray.size_append]; omega) | (unfold maxLen; (try simp only [ByteArray.size_append]); omega)) ?_
    refine And.intro (by (have hk0 : ByteArray.size { data := #[10] } = 1 := rfl; first | (unfold maxLen; omega) | (simp only [ByteArray.size_append]; omega) | (unfold maxLen; (try simp only [ByteArray.size_append]); omega))) ?_
    refine acode_region ?_
    refine And.intro (by first | omega | assumption | decide | (simp only [Int.toNat_natCast, dflt_sl, dflt_st, dflt_str, dflt_int, dflt_bool]; omega) | (simp <;> omega)) ?_
    exact ⟨k + 1, by omega, by first | omega | (simp <;> omega), le_of ⟨rfl, (is_eq (by rw [endL_snoc _ _ hlk2]; exact text_step _ _ _ _ hg)), rfl, rfl, rfl, (ii_eq (by omega))⟩ trivial rfl⟩
   ·try simp only [decide_eq_false_iff_not, Int.not_lt] at h20
    try simp only [Int.toNat_natCast, dflt_sl, dflt_st, dflt_str, dflt_int, dflt_bool] at h20
    refine acode_exit ?_
    refine acode_region ?_
    refine And.intro (by first | omega | assumption | decide | (simp only [Int.toNat_natCast, dflt_sl, dflt_st, dflt_str, dflt_int, dflt_bool]; omega) | (simp <;> omega)) ?_
    exact ⟨i + 1, by omega, by first | omega | (simp <;> omega), le_of ⟨rfl, (is_eq (by rw [foldL_snoc l i (ByteArray.empty, ByteArray.empty) hlt, show List.take k (linesL (l.getD i (ByteArray.empty, ByteArray.empty)).1.data.toList (l.getD i (ByteArray.empty, ByteArray.empty)).2.data.toList) = linesL (l.getD i (ByteArray.empty, ByteArray.empty)).1.data.toList (l.getD i (ByteArray.empty, ByteArray.empty)).2.data.toList from List.take_of_length_le (by rw [← tlines]; omega)]; rfl)), (ii_eq (by omega))⟩ trivial rfl⟩
  ·try simp only [decide_eq_false_iff_not, Int.not_lt] at h10
   try simp only [Int.toNat_natCast, dflt_sl, dflt_st, dflt_str, dflt_int, dflt_bool] at h10
   refine acode_exit ?_
   refine acode_seq ?_
   refine acode_region ?_
   refine acode_ret ?_
   exact is_eq (by rw [List.take_of_length_le (by omega)])
theorem copies_c (l : List Fld) (hn : l.length ≤ 1000) : ACall Tryd.prog 15 [.one (.sl rFld l)] (.one (.sl rFld l)) := by
  refine acall_of (rs := [2]) Tryd.func15 rfl rfl rfl teOk rfl ?_
  refine acode_seq ?_
  refine acode_region ?_
  refine acode_seq ?_
  refine acode_region ?_
  refine And.intro (by first | exact app_le (by first | omega | (simp only [List.length_nil]; omega) | (simp; omega)) (by decide) | omega | assumption | decide | (simp only [Int.toNat_natCast, dflt_sl, dflt_st, dflt_str, dflt_int, dflt_bool]; omega) | (simp <;> omega)) ?_
  refine acode_ret ?_
  exact sl_eq (by rfl)
theorem list_ext_take {α : Type} {a b : List α} {i : Nat} (d : α) (ha : i < a.length) (hb : i < b.length) (h : a.take i = b.take i) (he : a.getD i d = b.getD i d) : a.take (i + 1) = b.take (i + 1) := by
  rw [← take_snoc d ha, ← take_snoc d hb, h, he]
theorem ne_at {α : Type} {a b : List α} {i : Nat} (d : α) (he : a.getD i d ≠ b.getD i d) : ¬ a = b := fun e => he (by rw [e])
theorem fields_c (a b : List Fld) : ACall Tryd.prog 29 [.one (.sl rFld a), .one (.sl rFld b)] (ib (decide (a = b))) := by
  refine acall_of (rs := [4]) Tryd.func29 rfl rfl rfl teOk rfl ?_
  refine acode_seq ?_
  refine acode_region ?_
  refine acode_seq ?_
  refine acode_seq ?_
  refine acode_region ?_
  intro l1_1
  try simp only [Int.toNat_natCast, dflt_sl, dflt_st, dflt_str, dflt_int, dflt_bool] at l1_1
  intro l1_3
  try simp only [Int.toNat_natCast, dflt_sl, dflt_st, dflt_str, dflt_int, dflt_bool] at l1_3
  refine acode_cond rfl (fun h10 => ?_) (fun h10 => ?_)
  ·try simp only [decide_eq_false_iff_not, Bool.not_eq_true'] at h10
   try simp only [Int.toNat_natCast, dflt_sl, dflt_st, dflt_str, dflt_int, dflt_bool] at h10
   refine acode_seq ?_
   refine acode_region ?_
   refine acode_ret ?_
   exact ib_eq (decide_eq_false (fun e => by rw [e] at h10; omega)).symm
  ·try simp only [decide_eq_true_eq, Bool.not_eq_false'] at h10
   try simp only [Int.toNat_natCast, dflt_sl, dflt_st, dflt_str, dflt_int, dflt_bool] at h10
   refine acode_skip ?_
   refine acode_seq ?_
   refine acode_seq ?_
   refine acode_region ?_
   intro l3_1
   try simp only [Int.toNat_natCast, dflt_sl, dflt_st, dflt_str, dflt_int, dflt_bool] at l3_1
   refine acode_block ?_
   refine acode_loopP (fun (i : Nat) => i ≤ a.length ∧ a.take i = b.take i) (fun (i : Nat) => [(0, .one (.sl rFld a)), (1, .one (.sl rFld b)), (12, ii .i64 a.length), (13, ii .i64 i)]) (fun (i : Nat) => []) 0 (fun (i : Nat) => a.length - i) 0 (⟨Nat.zero_le _, by simp⟩) (le_of ⟨rfl, rfl, rfl, rfl⟩ trivial rfl) ?_
   intro i hI0
   obtain ⟨hi, ht⟩ := hI0
   refine acode_seq ?_
   refine acode_region ?_
   refine acode_seq ?_
   refine acode_cond rfl (fun h14 => ?_) (fun h14 => ?_)
   ·try simp only [decide_eq_true_eq] at h14
    try simp only [Int.toNat_natCast, dflt_sl, dflt_st, dflt_str, dflt_int, dflt_bool] at h14
    have hla : i < a.length := by omega
    have hlb : i < b.length := by omega
    refine acode_skip ?_
    refine acode_seq ?_
    refine acode_block ?_
    refine acode_seq ?_
    refine acode_region ?_
    refine acode_seq ?_
    refine acode_draw rfl (by kernel_rfl) ?_
    refine And.intro (by first | omega | assumption | decide | (simp only [Int.toNat_natCast, dflt_sl, dflt_st, dflt_str, dflt_int, dflt_bool]; omega) | (simp <;> omega)) ?_
    refine And.intro (by first | omega | assumption | decide | (simp only [Int.toNat_natCast, dflt_sl, dflt_st, dflt_str, dflt_int, dflt_bool]; omega) | (simp <;> omega)) ?_
    refine And.intro (by rfl) ?_
    refine acode_cond rfl (fun h24 => ?_) (fun h24 => ?_)
    ·try simp only [decide_eq_false_iff_not, Bool.not_eq_true', Bool.and_eq_false_iff] at h24
     try simp only [Int.toNat_natCast, dflt_st, dflt_str] at h24
     refine acode_seq ?_
     refine acode_region ?_
     refine acode_ret ?_
     exact ib_eq (decide_eq_false (ne_at (i := i) (ByteArray.empty, ByteArray.empty) (fun e => h24.elim (fun h => h (congrArg Prod.fst e)) (fun h => h (congrArg Prod.snd e))))).symm
    ·try simp only [decide_eq_true_eq, Bool.and_eq_true, Bool.not_eq_false'] at h24
     try simp only [Int.toNat_natCast, dflt_st, dflt_str] at h24
     refine acode_skip ?_
     refine acode_region ?_
     refine And.intro (by first | omega | assumption | decide | (simp only [Int.toNat_natCast, dflt_sl, dflt_st, dflt_str, dflt_int, dflt_bool]; omega) | (simp <;> omega)) ?_
     exact ⟨i + 1, ⟨by omega, list_ext_take (ByteArray.empty, ByteArray.empty) hla hlb ht (Prod.ext h24.1 h24.2)⟩, by first | omega | (simp <;> omega), le_of ⟨rfl, rfl, rfl, (ii_eq (by omega))⟩ trivial rfl⟩
   ·try simp only [decide_eq_false_iff_not, Int.not_lt] at h14
    try simp only [Int.toNat_natCast, dflt_sl, dflt_st, dflt_str, dflt_int, dflt_bool] at h14
    refine acode_exit ?_
    refine acode_seq ?_
    refine acode_region ?_
    refine acode_ret ?_
    exact ib_eq (decide_eq_true (by rw [List.take_of_length_le (by omega), List.take_of_length_le (by omega)] at ht; exact ht)).symm
abbrev rFault : Rd (Int × Value) := .st (.int .i64) .raw
def errF (at_ n : Int) : C := .ifc 69 (.addr rFault (at_, .iface 67 (.int .i64 n)))
theorem num_nil : ACall Tryd.prog 27 [.one (.lit .nilIface)] (ii .i64 0) := by
  refine acall_of (rs := [2]) Tryd.func27 rfl rfl rfl teOk rfl ?_
  refine acode_seq ?_
  refine acode_region ?_
  refine acode_seq ?_
  refine acode_seq ?_
  refine acode_region ?_
  refine acode_block ?_
  refine acode_loopP (fun (u : Unit) => True) (fun (u : Unit) => [(0, .one (.lit .nilIface)), (7, ii .i64 0)]) (fun (u : Unit) => []) 0 (fun (u : Unit) => 0) () (trivial) (le_of ⟨rfl, rfl⟩ trivial rfl) ?_
  intro u hI0
  refine acode_seq ?_
  refine acode_region ?_
  refine acode_seq ?_
  refine acode_cond rfl (fun h8 => ?_) (fun h8 => ?_)
  ·try simp only [decide_eq_true_eq] at h8
   try simp only [Int.toNat_natCast, dflt_sl, dflt_st, dflt_str, dflt_int, dflt_bool] at h8
   refine acode_skip ?_
   refine acode_seq ?_
   refine acode_block ?_
   refine acode_seq ?_
   refine acode_seq ?_
   refine acode_region ?_
   refine acode_cond rfl (fun h10 => ?_) (fun h10 => ?_)
   ·try simp only [Bool.not_eq_true'] at h10
    try simp only [Int.toNat_natCast, dflt_sl, dflt_st, dflt_str, dflt_int, dflt_bool] at h10
    refine acode_seq ?_
    refine acode_region ?_
    refine acode_ret ?_
    rfl
   ·try simp only [Bool.not_eq_false'] at h10
    try simp only [Int.toNat_natCast, dflt_sl, dflt_st, dflt_str, dflt_int, dflt_bool] at h10
    cases h10
  ·try simp only [decide_eq_false_iff_not, Int.not_lt] at h8
   try simp only [Int.toNat_natCast, dflt_sl, dflt_st, dflt_str, dflt_int, dflt_bool] at h8
   cases h8
theorem num_errno (n : Int) (hn : n ≠ 0) : ACall Tryd.prog 27 [.one (errN n)] (ii .i64 n) := by
  refine acall_of (rs := [2]) Tryd.func27 rfl rfl rfl teOk rfl ?_
  refine acode_seq ?_
  refine acode_region ?_
  refine acode_seq ?_
  refine acode_seq ?_
  refine acode_region ?_
  refine acode_block ?_
  refine acode_loopP (fun (u : Unit) => True) (fun (u : Unit) => [(0, .one (errN n)), (7, ii .i64 0)]) (fun (u : Unit) => []) 0 (fun (u : Unit) => 0) () (trivial) (le_of ⟨rfl, rfl⟩ trivial rfl) ?_
  intro u hI0
  refine acode_seq ?_
  refine acode_region ?_
  refine acode_seq ?_
  refine acode_cond rfl (fun h8 => ?_) (fun h8 => ?_)
  ·try simp only [decide_eq_true_eq] at h8
   try simp only [Int.toNat_natCast, dflt_sl, dflt_st, dflt_str, dflt_int, dflt_bool] at h8
   refine acode_skip ?_
   refine acode_seq ?_
   refine acode_block ?_
   refine acode_seq ?_
   refine acode_seq ?_
   refine acode_region ?_
   refine acode_cond rfl (fun h10 => ?_) (fun h10 => ?_)
   ·try simp only [decide_eq_true_eq, decide_eq_false_iff_not, Bool.and_eq_true, Bool.not_eq_true', Bool.not_eq_false', Bool.or_eq_false_iff, Bool.or_eq_true, Bool.and_eq_false_iff, Int.not_lt, Int.not_le] at h10
    try simp only [Int.toNat_natCast, dflt_sl, dflt_st, dflt_str, dflt_int, dflt_bool] at h10
    cases h10
   ·skip
    refine acode_skip ?_
    refine acode_seq ?_
    refine acode_seq ?_
    refine acode_region ?_
    refine acode_seq ?_
    refine acode_region ?_
    refine And.intro (fun h => trivial) ?_
    refine And.intro (fun h => ⟨⟨h, trivial⟩, trivial⟩) ?_
    refine And.intro (by exact fun h => h) ?_
    refine acode_cond rfl (fun h20 => ?_) (fun h20 => ?_)
    ·try simp only [decide_eq_false_iff_not, Bool.and_eq_true, Bool.not_eq_true'] at h20
     try simp only [Int.toNat_natCast, dflt_sl, dflt_st, dflt_str, dflt_int, dflt_bool] at h20
     refine acode_seq ?_
     refine acode_region ?_
     refine acode_ret ?_
     rfl
    ·try simp only [decide_eq_true_eq, Bool.not_eq_false', Bool.and_eq_false_iff] at h20
     try simp only [Int.toNat_natCast, dflt_sl, dflt_st, dflt_str, dflt_int, dflt_bool] at h20
     exact absurd (h20.resolve_left (fun e => by cases e)) hn
  ·try simp only [decide_eq_false_iff_not, Int.not_lt] at h8
   try simp only [Int.toNat_natCast, dflt_sl, dflt_st, dflt_str, dflt_int, dflt_bool] at h8
   cases h8
theorem num_fault (at_ n : Int) (hn : n ≠ 0) : ACall Tryd.prog 27 [.one (errF at_ n)] (ii .i64 n) := by
  refine acall_of (rs := [2]) Tryd.func27 rfl rfl rfl teOk rfl ?_
  refine acode_seq ?_
  refine acode_region ?_
  refine acode_seq ?_
  refine acode_seq ?_
  refine acode_region ?_
  refine acode_block ?_
  refine acode_loopP (fun (b : Bool) => True) (fun (b : Bool) => [(0, cond b (.one (errN n)) (.one (errF at_ n))), (7, ii .i64 (cond b 1 0))]) (fun (b : Bool) => []) 0 (fun (b : Bool) => cond b 0 1) false (trivial) (le_of ⟨rfl, rfl⟩ trivial rfl) ?_
  intro b hI0
  refine acode_seq ?_
  cases b
  ·refine acode_region ?_
   refine acode_seq ?_
   refine acode_cond rfl (fun h8 => ?_) (fun h8 => ?_)
   ·try simp only [decide_eq_true_eq] at h8
    try simp only [Int.toNat_natCast, dflt_sl, dflt_st, dflt_str, dflt_int, dflt_bool] at h8
    refine acode_skip ?_
    refine acode_seq ?_
    refine acode_block ?_
    refine acode_seq ?_
    refine acode_seq ?_
    refine acode_region ?_
    refine acode_cond rfl (fun h10 => ?_) (fun h10 => ?_)
    ·try simp only [decide_eq_true_eq, decide_eq_false_iff_not, Bool.and_eq_true, Bool.not_eq_true', Bool.not_eq_false', Bool.or_eq_false_iff, Bool.or_eq_true, Bool.and_eq_false_iff, Int.not_lt, Int.not_le] at h10
     try simp only [Int.toNat_natCast, dflt_sl, dflt_st, dflt_str, dflt_int, dflt_bool] at h10
     cases h10
    ·skip
     refine acode_skip ?_
     refine acode_seq ?_
     refine acode_seq ?_
     refine acode_region ?_
     refine acode_seq ?_
     refine acode_region ?_
     refine And.intro (fun h => trivial) ?_
     refine And.intro (fun h => ⟨⟨h, trivial⟩, trivial⟩) ?_
     refine And.intro (by exact fun h => h) ?_
     refine acode_cond rfl (fun h20 => ?_) (fun h20 => ?_)
     ·try simp only [decide_eq_false_iff_not, Bool.and_eq_true, Bool.not_eq_true'] at h20
      try simp only [Int.toNat_natCast, dflt_sl, dflt_st, dflt_str, dflt_int, dflt_bool] at h20
      exact absurd h20.1 (by decide)
     ·try simp only [decide_eq_true_eq, Bool.not_eq_false', Bool.and_eq_false_iff] at h20
      try simp only [Int.toNat_natCast, dflt_sl, dflt_st, dflt_str, dflt_int, dflt_bool] at h20
      refine acode_skip ?_
      refine acode_seq ?_
      refine acode_region ?_
      refine acode_seq ?_
      refine acode_seq ?_
      refine acode_region ?_
      refine And.intro (fun h => trivial) ?_
      refine And.intro (fun h => ⟨⟨h, trivial⟩, trivial⟩) ?_
      refine And.intro (by first | (intro h; rw [h]; rfl) | (intro h; cases h)) ?_
      refine And.intro (fun h => trivial) ?_
      refine And.intro (fun h => ⟨⟨h, trivial⟩, trivial⟩) ?_
      refine And.intro (fun h => ⟨⟨h, trivial⟩, trivial⟩) ?_
      refine And.intro (fun h => ⟨⟨h, trivial⟩, trivial⟩) ?_
      refine And.intro (fun h => ⟨⟨h, trivial⟩, trivial⟩) ?_
      refine And.intro (by first | (intro h; rw [h]; rfl) | (intro h; cases h)) ?_
      refine acode_cond rfl (fun h39 => ?_) (fun h39 => ?_)
      ·try simp only [Bool.not_eq_true', Bool.or_eq_true] at h39
       try simp only [Int.toNat_natCast, dflt_sl, dflt_st, dflt_str, dflt_int, dflt_bool] at h39
       exact absurd h39 (by decide)
      ·try simp only [Bool.not_eq_false', Bool.or_eq_false_iff] at h39
       try simp only [Int.toNat_natCast, dflt_sl, dflt_st, dflt_str, dflt_int, dflt_bool] at h39
       refine acode_skip ?_
       refine acode_region ?_
       refine acode_region ?_
       refine And.intro (by first | omega | assumption | decide | (simp only [Int.toNat_natCast, dflt_sl, dflt_st, dflt_str, dflt_int, dflt_bool]; omega) | (simp <;> omega)) ?_
       exact ⟨true, trivial, by decide, le_of ⟨rfl, rfl⟩ trivial rfl⟩
   ·try simp only [decide_eq_false_iff_not, Int.not_lt] at h8
    try simp only [Int.toNat_natCast, dflt_sl, dflt_st, dflt_str, dflt_int, dflt_bool] at h8
    exact absurd h8 (by decide)
  ·refine acode_region ?_
   refine acode_seq ?_
   refine acode_cond rfl (fun h8 => ?_) (fun h8 => ?_)
   ·try simp only [decide_eq_true_eq] at h8
    try simp only [Int.toNat_natCast, dflt_sl, dflt_st, dflt_str, dflt_int, dflt_bool] at h8
    refine acode_skip ?_
    refine acode_seq ?_
    refine acode_block ?_
    refine acode_seq ?_
    refine acode_seq ?_
    refine acode_region ?_
    refine acode_cond rfl (fun h10 => ?_) (fun h10 => ?_)
    ·try simp only [decide_eq_true_eq, decide_eq_false_iff_not, Bool.and_eq_true, Bool.not_eq_true', Bool.not_eq_false', Bool.or_eq_false_iff, Bool.or_eq_true, Bool.and_eq_false_iff, Int.not_lt, Int.not_le] at h10
     try simp only [Int.toNat_natCast, dflt_sl, dflt_st, dflt_str, dflt_int, dflt_bool] at h10
     cases h10
    ·skip
     refine acode_skip ?_
     refine acode_seq ?_
     refine acode_seq ?_
     refine acode_region ?_
     refine acode_seq ?_
     refine acode_region ?_
     refine And.intro (fun h => trivial) ?_
     refine And.intro (fun h => ⟨⟨h, trivial⟩, trivial⟩) ?_
     refine And.intro (by exact fun h => h) ?_
     refine acode_cond rfl (fun h20 => ?_) (fun h20 => ?_)
     ·try simp only [decide_eq_false_iff_not, Bool.and_eq_true, Bool.not_eq_true'] at h20
      try simp only [Int.toNat_natCast, dflt_sl, dflt_st, dflt_str, dflt_int, dflt_bool] at h20
      refine acode_seq ?_
      refine acode_region ?_
      refine acode_ret ?_
      rfl
     ·try simp only [decide_eq_true_eq, Bool.not_eq_false', Bool.and_eq_false_iff] at h20
      try simp only [Int.toNat_natCast, dflt_sl, dflt_st, dflt_str, dflt_int, dflt_bool] at h20
      exact absurd (h20.resolve_left (fun e => by cases e)) hn
   ·try simp only [decide_eq_false_iff_not, Int.not_lt] at h8
    try simp only [Int.toNat_natCast, dflt_sl, dflt_st, dflt_str, dflt_int, dflt_bool] at h8
    exact absurd h8 (by decide)
end Q
end Ab
end Go.Proofs.YtlbainbjlibfiaaDoor
