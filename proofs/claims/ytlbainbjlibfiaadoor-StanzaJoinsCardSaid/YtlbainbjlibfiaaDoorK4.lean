/-
  The texts of this proof, joined: abstract values, the library, the functions of the program and what they compute (part 4). No condition.
-/
import Derived.Test.YtlbainbjlibfiaaDoorRows
import Derived.Lib.Strings
import Derived.Lib.Slices
import Derived.Lib.Walk
import Derived.Lib.Builder
import Derived.Lib.AppendStr
import Derived.Lib.OthersKept
import Derived.WalkKit
import Derived.Laws.Externs
import Derived.Laws.IdiomCopy
import Derived.Lib.UnsafeStr
import Derived.Shelf.RegionOpenPlain
import Derived.Shelf.Strings.Builder1
import Derived.Shelf.Strings.Builder2
import Derived.Shelf.Strings.OnBuilder
import Derived.Shelf.Strings.Trim
import Derived.Shelf.Small.Utf8
import Derived.Shelf.Small.Strs
import Derived.Shelf.Strings.BuilderF
import Derived.Shelf.Strings.BuilderK
import Derived.Shelf.Utf8.RuneCount
import Derived.Shelf.Strings.Builder2Cap
import Derived.Shelf.Strings.Search1
import Derived.Shelf.Strings.Search2
import Derived.Shelf.Strings.Search3
import Derived.Shelf.Strings.Cut
import Derived.Shelf.Strings.Count
import Derived.Shelf.LaysM
import Derived.Shelf.Strings.Shaped
import Derived.Shelf.Strings.Prefix
import Derived.Shelf.Strings.Split
import Derived.Shelf.Strings.SplitShaped
import Derived.Shelf.Unicode.Decode
import Derived.Shelf.Strings.Runes
import Derived.Shelf.Strings.RuneCount
import Derived.Shelf.Strings.AsciiSet
import Derived.Shelf.Strings.Explode
import Derived.Shelf.Unicode.DecodeSlow
import Derived.Shelf.Unicode.DecodeAny
import Derived.Shelf.Unicode.DecodeLast
import Derived.Shelf.Strings.BuilderCap
import Derived.Test.YtlbainbjlibfiaaDoorProg
import Derived.Lib.SplitLaws
import Derived.Shelf.Strings.SlTrimAscii
import Derived.Lib.Join
import Derived.Lib.SlTrimSet
import Derived.Test.YtlbainbjlibfiaaDoorK1
import Derived.Test.YtlbainbjlibfiaaDoorK2
import Derived.Test.YtlbainbjlibfiaaDoorK3
namespace Go.Proofs.YtlbainbjlibfiaaDoor
open Go.RowKit
namespace Ab
def ty9 : TyI := ⟨.str, 1, 16, [.string ⟨#[]⟩], some ⟨_, .str⟩, true⟩
theorem tyOk9 : TyOk Tryd.prog 9 ty9 := tyOk_of (by kernel_rfl) Tryd.underlying9 rfl (by decide) rfl (fun _ _ h => by cases h; rfl) (fun _ => by kernel_rfl)
def ty3 : TyI := ⟨.int .i64, 1, 8, [.int .i64 0], some ⟨_, (.int .i64)⟩, true⟩
theorem tyOk3 : TyOk Tryd.prog 3 ty3 := tyOk_of (by kernel_rfl) Tryd.underlying3 rfl (by decide) rfl (fun _ _ h => by cases h; rfl) (fun _ => by kernel_rfl)
def ty22 : TyI := ⟨.slice 26, 1, 24, [.slice none 0 0], some ⟨_, (.sl (.st (.int .i64) (.st .str (.sl (.st .str .str)))))⟩, false⟩
theorem tyOk22 : TyOk Tryd.prog 22 ty22 := tyOk_of (by kernel_rfl) Tryd.underlying22 rfl (by decide) rfl (fun _ _ h => by cases h; rfl) (fun h => by cases h)
def ty24 : TyI := ⟨.slice 57, 1, 24, [.slice none 0 0], some ⟨_, (.sl (.st .str .str))⟩, false⟩
theorem tyOk24 : TyOk Tryd.prog 24 ty24 := tyOk_of (by kernel_rfl) Tryd.underlying24 rfl (by decide) rfl (fun _ _ h => by cases h; rfl) (fun h => by cases h)
def ty26 : TyI := ⟨.struct [(0, 3), (1, 9), (2, 24)], 3, 48, [.int .i64 0, .string ⟨#[]⟩, .slice none 0 0], some ⟨_, (.st (.int .i64) (.st .str (.sl (.st .str .str))))⟩, false⟩
theorem tyOk26 : TyOk Tryd.prog 26 ty26 := tyOk_of (by kernel_rfl) ⟨by kernel_rfl, by kernel_rfl, by kernel_rfl, by kernel_rfl, by kernel_rfl⟩ rfl (by decide) rfl (fun _ _ h => by cases h; rfl) (fun h => by cases h)
def ty76 : TyI := ⟨.slice 9, 1, 24, [.slice none 0 0], some ⟨_, (.sl .str)⟩, false⟩
theorem tyOk76 : TyOk Tryd.prog 76 ty76 := tyOk_of (by kernel_rfl) Tryd.underlying76 rfl (by decide) rfl (fun _ _ h => by cases h; rfl) (fun h => by cases h)
def ty5 : TyI := ⟨.int .u8, 1, 1, [.int .u8 0], some ⟨_, (.int .u8)⟩, true⟩
theorem tyOk5 : TyOk Tryd.prog 5 ty5 := tyOk_of (by kernel_rfl) Tryd.underlying5 rfl (by decide) rfl (fun _ _ h => by cases h; rfl) (fun _ => by kernel_rfl)
def ty57 : TyI := ⟨.struct [(0, 9), (1, 9)], 2, 32, [.string ⟨#[]⟩, .string ⟨#[]⟩], some ⟨_, (.st .str .str)⟩, true⟩
theorem tyOk57 : TyOk Tryd.prog 57 ty57 := tyOk_of (by kernel_rfl) ⟨by kernel_rfl, by kernel_rfl, by kernel_rfl, by kernel_rfl, by kernel_rfl⟩ rfl (by decide) rfl (fun _ _ h => by cases h; rfl) (fun _ => by kernel_rfl)
def ty21 : TyI := ⟨.int .i32, 1, 4, [.int .i32 0], some ⟨_, (.int .i32)⟩, true⟩
theorem tyOk21 : TyOk Tryd.prog 21 ty21 := tyOk_of (by kernel_rfl) Tryd.underlying21 rfl (by decide) rfl (fun _ _ h => by cases h; rfl) (fun _ => by kernel_rfl)
def ty41 : TyI := ⟨.iface, 1, 16, [.nilIface], some ⟨_, .raw⟩, false⟩
theorem tyOk41 : TyOk Tryd.prog 41 ty41 := tyOk_of (by kernel_rfl) ⟨_, Tryd.underlying41⟩ rfl (by decide) rfl (fun _ _ h => by cases h; rfl) (fun h => by cases h)
def ty4 : TyI := ⟨.bool, 1, 1, [.bool false], some ⟨_, .bool⟩, true⟩
theorem tyOk4 : TyOk Tryd.prog 4 ty4 := tyOk_of (by kernel_rfl) Tryd.underlying4 rfl (by decide) rfl (fun _ _ h => by cases h; rfl) (fun _ => by kernel_rfl)
def ty80 : TyI := ⟨.struct [(0, 78), (3, 22), (4, 76), (5, 24), (6, 3)], 7, 120, [.slice none 0 0, .int .i64 0, .bool false, .slice none 0 0, .slice none 0 0, .slice none 0 0, .int .i64 0], some ⟨_, (.st (.st (.sl .str) (.st (.int .i64) .bool)) (.st (.sl (.st (.int .i64) (.st .str (.sl (.st .str .str))))) (.st (.sl .str) (.st (.sl (.st .str .str)) (.int .i64)))))⟩, false⟩
theorem tyOk80 : TyOk Tryd.prog 80 ty80 := tyOk_of (by kernel_rfl) ⟨by kernel_rfl, by kernel_rfl, by kernel_rfl, by kernel_rfl, by kernel_rfl⟩ rfl (by decide) rfl (fun _ _ h => by cases h; rfl) (fun h => by cases h)
def ty85 : TyI := ⟨.struct [(0, 3), (1, 3), (2, 9), (3, 4)], 4, 40, [.int .i64 0, .int .i64 0, .string ⟨#[]⟩, .bool false], some ⟨_, (.st (.int .i64) (.st (.int .i64) (.st .str .bool)))⟩, true⟩
theorem tyOk85 : TyOk Tryd.prog 85 ty85 := tyOk_of (by kernel_rfl) ⟨by kernel_rfl, by kernel_rfl, by kernel_rfl, by kernel_rfl, by kernel_rfl⟩ rfl (by decide) rfl (fun _ _ h => by cases h; rfl) (fun _ => by kernel_rfl)
def ty63 : TyI := ⟨.struct [(0, 60), (1, 61)], 2, 32, [.pointer none, .slice none 0 0], none, false⟩
theorem tyOk63 : TyOk Tryd.prog 63 ty63 := tyOk_of (by kernel_rfl) ⟨by kernel_rfl, by kernel_rfl, by kernel_rfl, by kernel_rfl, by kernel_rfl⟩ rfl (by decide) rfl (fun _ _ h => by cases h) (fun h => by cases h)
def ty61 : TyI := ⟨.slice 5, 1, 24, [.slice none 0 0], some ⟨_, (.sl (.int .u8))⟩, false⟩
theorem tyOk61 : TyOk Tryd.prog 61 ty61 := tyOk_of (by kernel_rfl) Tryd.underlying61 rfl (by decide) rfl (fun _ _ h => by cases h; rfl) (fun h => by cases h)
def ty37 : TyI := ⟨.slice 24, 1, 24, [.slice none 0 0], some ⟨_, (.sl (.sl (.st .str .str)))⟩, false⟩
theorem tyOk37 : TyOk Tryd.prog 37 ty37 := tyOk_of (by kernel_rfl) Tryd.underlying37 rfl (by decide) rfl (fun _ _ h => by cases h; rfl) (fun h => by cases h)
def ty130 : TyI := ⟨.int .u32, 1, 4, [.int .u32 0], some ⟨_, (.int .u32)⟩, true⟩
theorem tyOk130 : TyOk Tryd.prog 130 ty130 := tyOk_of (by kernel_rfl) Tryd.underlying130 rfl (by decide) rfl (fun _ _ h => by cases h; rfl) (fun _ => by kernel_rfl)
def ty67 : TyI := ⟨.int .i64, 1, 8, [.int .i64 0], some ⟨_, (.int .i64)⟩, true⟩
theorem tyOk67 : TyOk Tryd.prog 67 ty67 := tyOk_of (by kernel_rfl) Tryd.underlying67 rfl (by decide) rfl (fun _ _ h => by cases h; rfl) (fun _ => by kernel_rfl)
def ty75 : TyI := ⟨.ptr 80, 1, 8, [.pointer none], none, false⟩
theorem tyOk75 : TyOk Tryd.prog 75 ty75 := tyOk_of (by kernel_rfl) Tryd.underlying75 rfl (by decide) rfl (fun _ _ h => by cases h) (fun h => by cases h)
def ty78 : TyI := ⟨.struct [(0, 76), (1, 3), (2, 4)], 3, 40, [.slice none 0 0, .int .i64 0, .bool false], some ⟨_, (.st (.sl .str) (.st (.int .i64) .bool))⟩, false⟩
theorem tyOk78 : TyOk Tryd.prog 78 ty78 := tyOk_of (by kernel_rfl) ⟨by kernel_rfl, by kernel_rfl, by kernel_rfl, by kernel_rfl, by kernel_rfl⟩ rfl (by decide) rfl (fun _ _ h => by cases h; rfl) (fun h => by cases h)
def ty60 : TyI := ⟨.ptr 63, 1, 8, [.pointer none], none, false⟩
theorem tyOk60 : TyOk Tryd.prog 60 ty60 := tyOk_of (by kernel_rfl) Tryd.underlying60 rfl (by decide) rfl (fun _ _ h => by cases h) (fun h => by cases h)
def ty136 : TyI := ⟨.struct [(0, 5), (1, 5)], 2, 2, [.int .u8 0, .int .u8 0], some ⟨_, (.st (.int .u8) (.int .u8))⟩, true⟩
theorem tyOk136 : TyOk Tryd.prog 136 ty136 := tyOk_of (by kernel_rfl) ⟨by kernel_rfl, by kernel_rfl, by kernel_rfl, by kernel_rfl, by kernel_rfl⟩ rfl (by decide) rfl (fun _ _ h => by cases h; rfl) (fun _ => by kernel_rfl)
def ty71 : TyI := ⟨.struct [(0, 3), (1, 41)], 2, 24, [.int .i64 0, .nilIface], some ⟨_, (.st (.int .i64) .raw)⟩, false⟩
theorem tyOk71 : TyOk Tryd.prog 71 ty71 := tyOk_of (by kernel_rfl) ⟨by kernel_rfl, by kernel_rfl, by kernel_rfl, by kernel_rfl, by kernel_rfl⟩ rfl (by decide) rfl (fun _ _ h => by cases h; rfl) (fun h => by cases h)
def ty69 : TyI := ⟨.ptr 71, 1, 8, [.pointer none], none, false⟩
theorem tyOk69 : TyOk Tryd.prog 69 ty69 := tyOk_of (by kernel_rfl) Tryd.underlying69 rfl (by decide) rfl (fun _ _ h => by cases h) (fun h => by cases h)
def ty121 : TyI := ⟨.ptr 117, 1, 8, [.pointer none], none, false⟩
theorem tyOk121 : TyOk Tryd.prog 121 ty121 := tyOk_of (by kernel_rfl) Tryd.underlying121 rfl (by decide) rfl (fun _ _ h => by cases h) (fun h => by cases h)
def ty49 : TyI := ⟨.slice 41, 1, 24, [.slice none 0 0], some ⟨_, (.sl .raw)⟩, false⟩
theorem tyOk49 : TyOk Tryd.prog 49 ty49 := tyOk_of (by kernel_rfl) Tryd.underlying49 rfl (by decide) rfl (fun _ _ h => by cases h; rfl) (fun h => by cases h)
def ty90 : TyI := ⟨.ptr 5, 1, 8, [.pointer none], none, false⟩
theorem tyOk90 : TyOk Tryd.prog 90 ty90 := tyOk_of (by kernel_rfl) Tryd.underlying90 rfl (by decide) rfl (fun _ _ h => by cases h) (fun h => by cases h)
def te : List (TypeId × TyI) := [(9, ty9), (3, ty3), (22, ty22), (24, ty24), (26, ty26), (76, ty76), (5, ty5), (57, ty57), (21, ty21), (41, ty41), (4, ty4), (80, ty80), (85, ty85), (63, ty63), (61, ty61), (37, ty37), (130, ty130), (67, ty67), (75, ty75), (78, ty78), (60, ty60), (136, ty136), (71, ty71), (69, ty69), (121, ty121), (49, ty49), (90, ty90)]
theorem teOk : TEok Tryd.prog te := by
  intro p hp
  simp only [te, List.mem_cons, List.not_mem_nil, or_false] at hp
  rcases hp with rfl | rfl | rfl | rfl | rfl | rfl | rfl | rfl | rfl | rfl | rfl | rfl | rfl | rfl | rfl | rfl | rfl | rfl | rfl | rfl | rfl | rfl | rfl | rfl | rfl | rfl | rfl
  · exact tyOk9
  · exact tyOk3
  · exact tyOk22
  · exact tyOk24
  · exact tyOk26
  · exact tyOk76
  · exact tyOk5
  · exact tyOk57
  · exact tyOk21
  · exact tyOk41
  · exact tyOk4
  · exact tyOk80
  · exact tyOk85
  · exact tyOk63
  · exact tyOk61
  · exact tyOk37
  · exact tyOk130
  · exact tyOk67
  · exact tyOk75
  · exact tyOk78
  · exact tyOk60
  · exact tyOk136
  · exact tyOk71
  · exact tyOk69
  · exact tyOk121
  · exact tyOk49
  · exact tyOk90
end Ab
end Go.Proofs.YtlbainbjlibfiaaDoor
namespace Go.Proofs.YtlbainbjlibfiaaDoor
open Go.RowKit
namespace Bld
set_option maxRecDepth 100000
set_option maxHeartbeats 1000000
abbrev IsB (B b : Nat) (bs : List Value) (w : World) : Prop := Lib.IsBuilder 63 5 B b bs w
theorem sizeBuilder : (Tryd.prog.info? 63).map (·.size) = some 2 := by kernel_rfl
theorem liesBuilder : liesAt Tryd.prog Tryd.prog.depth 63 (2 / Tryd.prog.cellsOf 63) 0 63 1 = true := by kernel_rfl
theorem infoByte : (Tryd.prog.info? 5).map (fun i => (i.zero, i.size, i.bytes)) = some (some (.int .u8 0), 1, 1) := by kernel_rfl
theorem copyCheck_used (b : Nat) (w : World) (h0 : w.cell? ⟨b, 0, none⟩ = some (.pointer (some ⟨b, 0, none⟩))) :
    Calls Tryd.prog 46 #[.pointer (some ⟨b, 0, none⟩)] w fun e w' => e = .returned (.tuple #[]) ∧ w' = w := by
  obtain ⟨j, hj, _⟩ := Option.map_eq_some_iff.1 sizeBuilder
  go_enter Tryd.func46, Tryd.ntmps46
  go_wp2
  rw [Lib.run_neq_ptr_same w _ Tryd.underlying60 hj]
  go_wp2
  go_end0
  exact ⟨rfl, rfl⟩
theorem copyCheck_fresh (b : Nat) (w : World) (h0 : w.cell? ⟨b, 0, none⟩ = some (.pointer none)) (hsh : w.shape? b = some (63, 2)) (hfz : w.frozen? ⟨b, 0, none⟩ = false) :
    Calls Tryd.prog 46 #[.pointer (some ⟨b, 0, none⟩)] w fun e w' => e = .returned (.tuple #[]) ∧ w' = w.setCell ⟨b, 0, none⟩ (.pointer (some ⟨b, 0, none⟩)) := by
  obtain ⟨j, hj, hjs⟩ := Option.map_eq_some_iff.1 sizeBuilder
  go_enter Tryd.func46, Tryd.ntmps46
  go_wp2
  rw [Lib.run_to_unsafe w ⟨b, 0, none⟩ Tryd.underlying60 Tryd.underlying103 hj (by rw [hjs]; decide) hsh (Nat.zero_lt_succ 1)]
  simp only [Result.andThen]
  rw [Oper.upon_value]
  go_wp2
  rw [run_callFunc_extern Tryd.func60 (by kernel_rfl) (by kernel_rfl) (by kernel_rfl) (e := Extern.AbiNoEscape.same) (by kernel_rfl)]
  rw [Lib.run_noEscape]
  simp only [Result.andThen]
  rw [Oper.upon_value]
  go_wp2
  rw [Lib.run_from_unsafe w ⟨b, 0, none⟩ Tryd.underlying103 Tryd.underlying60 hj hsh liesBuilder]
  simp only [Result.andThen]
  rw [Oper.upon_value]
  go_wp2
  go_end0
  exact ⟨rfl, rfl⟩
end Bld
end Go.Proofs.YtlbainbjlibfiaaDoor
namespace Go.Proofs.YtlbainbjlibfiaaDoor
open Go.RowKit
namespace Ab
abbrev bldO (u : Bool) (xs : List Int) : Obs := [(0, .box 63 [.nself u 0, .vec 1]), (1, .vec 5 (.int .u8) xs)]
theorem setCell_grew {w : World} {b i : Nat} {v : Value} : Grew w (w.setCell ⟨b, i, none⟩ v) (some b) :=
  ⟨rfl, rfl, rfl, by simp [World.setCell], fun k _ hk => by
    simp only [World.setCell, Array.getElem?_modify]
    rw [if_neg (fun e => hk (by rw [e]))]⟩
theorem setCell_heap {w : World} {b i : Nat} {v : Value} {cs : Array Value} {T : TypeId} {fr : Nat × Nat} (h : w.heap[b]? = some (.cells cs T fr)) : (w.setCell ⟨b, i, none⟩ v).heap[b]? = some (.cells (cs.setIfInBounds i v) T fr) := by
  simp [World.setCell, Array.getElem?_modify, h]
theorem copyCheck_o (u : Bool) (xs : List Int) : ACallO Tryd.prog 46 [.one (.own 0 0)] (bldO u xs) 2 (.tup []) (bldO true xs) 2 := by
  refine ⟨⟨_, Tryd.func46, rfl, rfl⟩, fun cx ρ w vs hN hnx hw hs hvs => ?_⟩
  obtain ⟨b, cs, hρ, hh, hcs⟩ := hs.obs (0, .box 63 [.nself u 0, .vec 1]) (by simp)
  obtain ⟨p, r, rfl, hp, v, r2, rfl, hv, hr⟩ := hcs
  rw [show r2 = [] from hr] at hh
  obtain ⟨q, r3, rfl, ⟨b', hb1, hb2⟩, hr3⟩ := hvs
  rw [hρ] at hb1
  simp only [Option.some.injEq, Value.pointer.injEq, Addr.mk.injEq, and_true] at hb1
  subst hb1
  rw [show r3 = [] from hr3, hb2]
  have hh : w.heap[b]? = some (.cells #[p, v] 63 (0, 0)) := hh
  cases u with
  | true =>
    obtain ⟨b2, hb3, hb4⟩ := hp.1 rfl
    rw [hρ] at hb3
    simp only [Option.some.injEq, Value.pointer.injEq, Addr.mk.injEq, and_true] at hb3
    subst hb3
    refine (Bld.copyCheck_used b w (by simp [World.cell?, hh, hb4])).mono ?_
    rintro e w' ⟨rfl, rfl⟩
    exact ⟨_, ρ, rfl, hs, [], rfl, rfl⟩
  | false =>
    have hp : p = .pointer none := hp.2 rfl
    refine (Bld.copyCheck_fresh b w (by simp [World.cell?, hh, hp]) (by simp [World.shape?, hh]) (Lib.frozen_of_heap hh 0)).mono ?_
    rintro e w' ⟨rfl, rfl⟩
    refine ⟨_, ρ, rfl, ?_, [], rfl, rfl⟩
    have hg : getO (bldO false xs) 0 = some (.box 63 [.nself false 0, .vec 1]) := rfl
    have hk : Keeps (okOf cx ρ (bldO false xs)) (okOf cx ρ (bldO false xs)) w (w.setCell ⟨b, 0, none⟩ (.pointer (some ⟨b, 0, none⟩))) :=
      fun _ k hk hlt => ⟨hk, setCell_grew.block k hlt (fun e => hk.2 _ (mem_getO hg) (by rw [hρ]; exact e.symm))⟩
    have := hs.write (o' := .box 63 [.nself true 0, .vec 1]) hg (w' := w.setCell ⟨b, 0, none⟩ (.pointer (some ⟨b, 0, none⟩))) (by rw [hρ]; exact setCell_grew) (by simp [World.setCell]) ⟨b, [.pointer (some ⟨b, 0, none⟩), v], hρ, setCell_heap hh, _, _, rfl, ⟨fun _ => ⟨b, hρ, rfl⟩, fun e => by (cases e)⟩, _, _, rfl, C.kept (c := .vec 1) hk hv, rfl⟩
    exact this
set_option maxRecDepth 10000
theorem writeString_o (u : Bool) (xs : List Int) (t : ByteArray) (hl : xs.length + t.size ≤ 140737488355328) : ACallO Tryd.prog 35 [.one (.own 0 0), is t] (bldO u xs) 2
    (.tup [(false, [.lit (.int .i64 t.size)]), (false, [.lit .nilIface])]) (bldO true (xs ++ intsOf t)) 2 := by
  refine acallo_of (rs := [4, 5]) Tryd.func35 rfl rfl rfl teOk (by decide) rfl ?_
  refine acode_seq (acode_region ?_)
  refine acode_seq (acode_region ?_)
  refine Or.inr (Or.inl (Exists.intro [] (Exists.intro [0, 1] (Exists.intro _ (Exists.intro _ (Exists.intro _ (Exists.intro _ (Exists.intro _ (And.intro (copyCheck_o u xs) (And.intro rfl (And.intro (And.intro (And.intro rfl rfl) (And.intro (And.intro rfl rfl) True.intro)) (And.intro rfl ?_))))))))))))
  refine acode_seq (acode_region ?_)
  refine And.intro hl ?_
  refine acode_seq (acode_region ?_)
  refine acode_ret ?_
  exact ⟨rfl, ⟨rfl, rfl⟩, rfl⟩
end Ab
end Go.Proofs.YtlbainbjlibfiaaDoor
namespace Go.Proofs.YtlbainbjlibfiaaDoor
open Go.RowKit
namespace Ab
theorem grew_freeze {w w' : World} {g n : Nat} (h : Grew w w' (some g)) : Grew w (w'.freeze ⟨g, 0, none⟩ n) (some g) := by
  unfold World.freeze
  split
  · exact h
  · exact ⟨h.os, h.tape, h.output, by simpa using h.size, fun k hk hg => by
      simp only [Array.getElem?_modify]
      rw [if_neg (fun e => hg (by rw [e]))]
      exact h.block k hk hg⟩
theorem grew_drew {w : World} {r : Option Nat} : Grew w w.drew r := ⟨rfl, rfl, rfl, Nat.le_refl _, fun _ _ _ => rfl⟩
theorem grew_alloc {w : World} {o : Obj} {r : Option Nat} : Grew w (w.drew.alloc o) r := ⟨rfl, rfl, rfl, by simp, fun k hk _ => Lib.alloc_old w.drew _ k hk⟩
set_option maxRecDepth 100000
set_option maxHeartbeats 2000000
theorem string_some (b g cap : Nat) (cur : Array Value) (p : Value) (l : List UInt8) (w : World) (h0 : l ≠ []) (hbk : w.heap[b]? = some (.cells #[p, .slice (some ⟨g, 0, none⟩) l.length cap] 63 (0, 0)))
    (hg : w.heap[g]? = some (.cells cur 5 (0, 0))) (hnc : l.length ≤ cap) (hcm : cap ≤ maxLen) (hcs : cur.size = cap * 1) (hown : w.ownsRow 0 5 1 (.slice (some ⟨g, 0, none⟩) l.length cap) l.length (Lib.byteCells l)) :
    Calls Tryd.prog 36 #[.pointer (some ⟨b, 0, none⟩)] w fun e w' => e = .returned (.string ⟨l.toArray⟩) ∧ Grew w w' (some g) := by
  have hl0 : l.length ≠ 0 := by simpa using h0
  have c1 : w.drew.cell? ⟨b, 1, none⟩ = some (.slice (some ⟨g, 0, none⟩) l.length cap) := by
    have : w.drew.heap[b]? = some (.cells #[p, .slice (some ⟨g, 0, none⟩) l.length cap] 63 (0, 0)) := hbk
    rw [Lib.cell_of_heap this]; rfl
  have hSD : (Builtin.unsafeSliceData_ #[61] 90 #[.slice (some ⟨g, 0, none⟩) l.length cap]).run Tryd.prog w.drew = .ok (.pointer (some ⟨g, 0, none⟩)) w.drew :=
    Lib.run_unsafeSliceData_row _ _ _ _ _ _ (by omega)
  have hUS : (Builtin.unsafeString_ #[90, 3] 9 #[.pointer (some ⟨g, 0, none⟩), .int .i64 l.length]).run Tryd.prog w.drew = .ok (.string ⟨l.toArray⟩) (w.drew.freeze ⟨g, 0, none⟩ l.length) := by
    refine Lib.run_unsafeString_row w.drew 90 3 9 5 Tryd.underlying90 (by kernel_rfl) g cur.size (by have hg' : w.drew.heap[g]? = some (.cells cur 5 (0, 0)) := hg; simp [World.shape?, hg']) l h0 (by omega) (by unfold maxLen at hcm; omega) ?_
    intro j x hx
    have := hown.cells (g := g) rfl j (.int .u8 x.toNat) (by simp [Lib.byteCells, hx])
    exact this
  have mixed : Tryd.prog.follows .mixedOrders = true := by kernel_rfl
  go_enter Tryd.func36, Tryd.ntmps36
  go_wp2
  go_region_o
  all_goals (go_wp2; go_ret; exact ⟨rfl, grew_freeze grew_drew⟩)
theorem string_nil (b : Nat) (p : Value) (w : World) (hbk : w.heap[b]? = some (.cells #[p, .slice none 0 0] 63 (0, 0))) :
    Calls Tryd.prog 36 #[.pointer (some ⟨b, 0, none⟩)] w fun e w' => e = .returned (.string ⟨#[]⟩) ∧ Grew w w' none := by
  have hUS : ∀ (W : World) (q : Option Addr), (Builtin.unsafeString_ #[90, 3] 9 #[.pointer q, .int .i64 0]).run Tryd.prog W = .ok (.string .empty) W := fun W q => Lib.run_unsafeString_none W _ _ _ q
  have c1 : w.drew.cell? ⟨b, 1, none⟩ = some (.slice none 0 0) := by
    have : w.drew.heap[b]? = some (.cells #[p, .slice none 0 0] 63 (0, 0)) := hbk
    rw [Lib.cell_of_heap this]; rfl
  have hSD : (Builtin.unsafeSliceData_ #[61] 90 #[.slice none 0 0]).run Tryd.prog w.drew = .ok (.pointer none) w.drew := rfl
  have mixed : Tryd.prog.follows .mixedOrders = true := by kernel_rfl
  go_enter Tryd.func36, Tryd.ntmps36
  go_wp2
  go_region_o
  all_goals (go_wp2; go_ret; exact ⟨rfl, grew_drew⟩)
theorem string_noroom (b g : Nat) (p : Value) (cur : Array Value) (w : World) (hbk : w.heap[b]? = some (.cells #[p, .slice (some ⟨g, 0, none⟩) 0 0] 63 (0, 0))) (hg : w.heap[g]? = some (.cells cur 5 (0, 0))) :
    Calls Tryd.prog 36 #[.pointer (some ⟨b, 0, none⟩)] w fun e w' => e = .returned (.string ⟨#[]⟩) ∧ Grew w w' (some g) := by
  have hUS : ∀ (W : World) (q : Option Addr), (Builtin.unsafeString_ #[90, 3] 9 #[.pointer q, .int .i64 0]).run Tryd.prog W = .ok (.string .empty) W := fun W q => Lib.run_unsafeString_none W _ _ _ q
  have hlt : b < w.heap.size := (Array.getElem?_eq_some_iff.1 hbk).1
  have c1 : w.drew.cell? ⟨b, 1, none⟩ = some (.slice (some ⟨g, 0, none⟩) 0 0) := by
    have : w.drew.heap[b]? = some (.cells #[p, .slice (some ⟨g, 0, none⟩) 0 0] 63 (0, 0)) := hbk
    rw [Lib.cell_of_heap this]; rfl
  have hSD : (Builtin.unsafeSliceData_ #[61] 90 #[.slice (some ⟨g, 0, none⟩) 0 0]).run Tryd.prog w.drew = .ok (.pointer (some ⟨w.drew.heap.size, 0, none⟩)) (w.drew.alloc (.view ⟨g, 0, none⟩ 5)) :=
    Lib.run_unsafeSliceData_zero w.drew _ _ 5 Tryd.underlying90 ⟨g, 0, none⟩ 0 (5, cur.size) (by have hg' : w.drew.heap[g]? = some (.cells cur 5 (0, 0)) := hg; simp [World.shape?, hg'])
  have c2 : (w.drew.alloc (.view ⟨g, 0, none⟩ 5)).cell? ⟨b, 1, none⟩ = some (.slice (some ⟨g, 0, none⟩) 0 0) := by
    have : (w.drew.alloc (.view ⟨g, 0, none⟩ 5)).heap[b]? = _ := (Lib.alloc_old w.drew _ b hlt).trans hbk
    rw [Lib.cell_of_heap this]; rfl
  have c3 : (w.alloc (.view ⟨g, 0, none⟩ 5)).drew.cell? ⟨b, 1, none⟩ = some (.slice (some ⟨g, 0, none⟩) 0 0) := c2
  have c0 : w.cell? ⟨b, 1, none⟩ = some (.slice (some ⟨g, 0, none⟩) 0 0) := c1
  have mixed : Tryd.prog.follows .mixedOrders = true := by kernel_rfl
  go_enter Tryd.func36, Tryd.ntmps36
  go_wp2
  go_region_o
  all_goals (go_wp2; go_ret; exact ⟨rfl, grew_alloc⟩)
theorem string_room (b g cap : Nat) (p : Value) (w : World) (hc0 : cap ≠ 0) (hbk : w.heap[b]? = some (.cells #[p, .slice (some ⟨g, 0, none⟩) 0 cap] 63 (0, 0))) :
    Calls Tryd.prog 36 #[.pointer (some ⟨b, 0, none⟩)] w fun e w' => e = .returned (.string ⟨#[]⟩) ∧ Grew w w' (some g) := by
  have hUS : ∀ (W : World) (q : Option Addr), (Builtin.unsafeString_ #[90, 3] 9 #[.pointer q, .int .i64 0]).run Tryd.prog W = .ok (.string .empty) W := fun W q => Lib.run_unsafeString_none W _ _ _ q
  have c1 : w.drew.cell? ⟨b, 1, none⟩ = some (.slice (some ⟨g, 0, none⟩) 0 cap) := by
    have : w.drew.heap[b]? = some (.cells #[p, .slice (some ⟨g, 0, none⟩) 0 cap] 63 (0, 0)) := hbk
    rw [Lib.cell_of_heap this]; rfl
  have hSD : (Builtin.unsafeSliceData_ #[61] 90 #[.slice (some ⟨g, 0, none⟩) 0 cap]).run Tryd.prog w.drew = .ok (.pointer (some ⟨g, 0, none⟩)) w.drew :=
    Lib.run_unsafeSliceData_row _ _ _ _ _ _ hc0
  clear hc0
  have mixed : Tryd.prog.follows .mixedOrders = true := by kernel_rfl
  go_enter Tryd.func36, Tryd.ntmps36
  go_wp2
  go_region_o
  all_goals (go_wp2; go_ret; exact ⟨rfl, grew_drew⟩)
end Ab
end Go.Proofs.YtlbainbjlibfiaaDoor
namespace Go.Proofs.YtlbainbjlibfiaaDoor
open Go.RowKit
namespace Ab
theorem string_calls (b : Nat) (p v : Value) (s : ByteArray) (w : World) (hbk : w.heap[b]? = some (.cells #[p, v] 63 (0, 0))) (hown : w.ownsRow 0 5 1 v s.size (Lib.strCells s)) :
    Calls Tryd.prog 36 #[.pointer (some ⟨b, 0, none⟩)] w fun e w' => e = .returned (.string s) ∧ Grew w w' (blk (some v)) := by
  have hs : s = ⟨s.data.toList.toArray⟩ := by cases s; simp
  have hsz : s.size = s.data.toList.length := by cases s; rfl
  rcases hown.2 with ⟨rfl, hz⟩ | ⟨g, cap, cur, rfl, _, hg, hnc, hcm, hcs, htake⟩
  · have hl : s.data.toList = [] := List.eq_nil_of_length_eq_zero (by rw [← hsz]; exact hz)
    rw [hl] at hs
    refine (string_nil b p w hbk).mono ?_
    rintro e w' ⟨rfl, h⟩
    exact ⟨by rw [hs], h⟩
  · by_cases h0 : s.size = 0
    · have hl : s.data.toList = [] := List.eq_nil_of_length_eq_zero (by rw [← hsz]; exact h0)
      rw [hl] at hs
      rw [h0] at hbk
      by_cases hc : cap = 0
      · subst hc
        refine (string_noroom b g p cur w hbk hg).mono ?_
        rintro e w' ⟨rfl, h⟩
        exact ⟨by rw [hs], h⟩
      · refine (string_room b g cap p w hc hbk).mono ?_
        rintro e w' ⟨rfl, h⟩
        exact ⟨by rw [hs], h⟩
    · rw [hsz] at hbk hnc hown
      refine (string_some b g cap cur p s.data.toList w (fun e => h0 (by rw [hsz, e]; rfl)) hbk hg hnc hcm hcs hown).mono ?_
      rintro e w' ⟨rfl, h⟩
      exact ⟨by rw [← hs], h⟩
theorem string_o (u : Bool) (s : ByteArray) : ACallO Tryd.prog 36 [.one (.own 0 0)] (bldO u (intsOf s)) 2 (is s) [] 2 := by
  refine ⟨⟨_, Tryd.func36, rfl, rfl⟩, fun cx ρ w vs hN hnx hw hs hvs => ?_⟩
  obtain ⟨b, cs, hρ, hh, hcs⟩ := hs.obs (0, .box 63 [.nself u 0, .vec 1]) (by simp)
  obtain ⟨p, r, rfl, hp, v, r2, rfl, hv, hr⟩ := hcs
  rw [show r2 = [] from hr] at hh
  obtain ⟨q, r3, rfl, ⟨b', hb1, hb2⟩, hr3⟩ := hvs
  rw [hρ] at hb1
  simp only [Option.some.injEq, Value.pointer.injEq, Addr.mk.injEq, and_true] at hb1
  subst hb1
  rw [show r3 = [] from hr3, hb2]
  have hh : w.heap[b]? = some (.cells #[p, v] 63 (0, 0)) := hh
  obtain ⟨v', hv', css, h1, h2, h3⟩ := hs.obs (1, .vec 5 (.int .u8) (intsOf s)) (by simp)
  have hv1 : ρ 1 = some v := hv.1
  rw [show ρ 1 = some v' from hv'] at hv1
  obtain rfl := Option.some.inj hv1
  have hc : css = (intsOf s).map fun n => [Value.int .u8 n] := by
    apply List.ext_getElem
    · simp [h1]
    · intro i hi hi'
      have hlt : i < (intsOf s).length := by rw [← h1]; exact hi
      have h4 : css.getD i [] = [.int .u8 (intsOf s)[i]] := h2 i hlt
      simp only [List.getD, List.getElem?_eq_getElem hi, Option.getD_some] at h4
      rw [h4, List.getElem_map]
  have hown : w.ownsRow 0 5 1 v' s.size (Lib.strCells s) := by
    rw [← flat_ints, ← hc, ← intsOf_length]
    exact h3
  refine (string_calls b p v' s w hh hown).mono ?_
  rintro e w' ⟨rfl, hg⟩
  refine ⟨_, ρ, rfl, ⟨hs.size, DefOk.none hN.2.2, fun _ => trivial, fun p hp => by (cases hp), List.nodup_nil, fun p hp => by (cases hp), hs.names, hs.nx0, fun p hp => by (cases hp), fun p hp => by (cases hp), ?_, hs.disj, hs.pin, hs.glob, hs.bags⟩, rfl⟩
  refine ⟨by rw [hw]; exact hg.os, by rw [hw]; exact hg.tape, by rw [hw]; exact hg.output, by rw [hw]; exact hg.size, fun k hk hno => ?_, fun k hbg => by rw [hw]; exact .rfl' (hg.block k (by have := (hs.bags k hbg).1; rw [hw] at this; exact this) fun e => hs.bag_own hbg (p := (1, .vec 5 (.int .u8) (intsOf s))) (by simp) (by rw [show ρ 1 = some v' from hv']; exact e.symm))⟩
  rw [hw] at hk ⊢
  refine fun _ => hg.block k hk fun e => ?_
  rcases (hs.low (1, .vec 5 (.int .u8) (intsOf s)) (by simp) k (by rw [show ρ 1 = some v' from hv']; exact e.symm)).2 with h4 | h4
  · rw [hw] at h4; omega
  · exact hno h4
end Ab
end Go.Proofs.YtlbainbjlibfiaaDoor
namespace Go.Proofs
open Go.Shelf
def Tryd.lays169_ren : Go.Shelf.Ren := ⟨fun | 169 => 36 | n => n, fun | 70 => 60 | 9 => 9 | 0 => 0 | 72 => 63 | 37 => 61 | 127 => 90 | 3 => 3 | 5 => 5 | n => n, fun | n => n⟩
theorem Tryd.lays169 : Go.Proofs.Lays.n169 Tryd.prog Tryd.lays169_ren := {
  mixed := by kernel_rfl
  f169 := Tryd.func36.trans (congrArg some (by kernel_rfl))
  t0 := Tryd.underlying0
  a0 := Tryd.isAgg0
  z0 := Tryd.sizeOf0
  v0 := Tryd.zeroValue0
  t3 := Tryd.underlying3
  a3 := Tryd.isAgg3
  z3 := Tryd.sizeOf3
  v3 := Tryd.zeroValue3
  t9 := Tryd.underlying9
  a9 := Tryd.isAgg9
  z9 := Tryd.sizeOf9
  v9 := Tryd.zeroValue9
  t37 := Tryd.underlying61
  a37 := Tryd.isAgg61
  z37 := Tryd.sizeOf61
  v37 := Tryd.zeroValue61
  t70 := Tryd.underlying60
  a70 := Tryd.isAgg60
  z70 := Tryd.sizeOf60
  v70 := Tryd.zeroValue60
  t72 := Tryd.underlying63
  a72 := Tryd.isAgg63
  z72 := Tryd.sizeOf63
  v72 := Tryd.zeroValue63
  t127 := Tryd.underlying90
  a127 := Tryd.isAgg90
  z127 := Tryd.sizeOf90
  v127 := Tryd.zeroValue90 }
theorem Tryd.Builder_Extra_169 : Builder.Extra Tryd.prog Tryd.lays169_ren := {
  sizeBuilder := by kernel_rfl
  liesBuilder := by kernel_rfl
  t5 := Tryd.underlying5
  a5 := Tryd.isAgg5
  z5 := Tryd.sizeOf5
  v5 := Tryd.zeroValue5
  infoByte := by kernel_rfl
  cellsByte := by kernel_rfl
  sizeByte := by kernel_rfl
  neB5 := by decide }
open Go.RowKit in
theorem Tryd.Builder_String (B b : Nat) (l : List UInt8) (w : World) (h : Lib.IsBuilder 63 5 B b (Lib.byteCells l) w) (h0 : l ≠ []) :
    Calls Tryd.prog 36 #[.pointer (some ⟨b, 0, none⟩)] w fun e w' => e = .returned (.string ⟨l.toArray⟩) ∧ Below B w w' := Any.Builder_String Tryd.lays169 Tryd.Builder_Extra_169 B b l w h h0
open Go.RowKit in
theorem Tryd.Builder_String_empty (B b : Nat) (w : World) (h : Lib.IsBuilder 63 5 B b [] w) (hBw : B ≤ w.heap.size) :
    Calls Tryd.prog 36 #[.pointer (some ⟨b, 0, none⟩)] w fun e w' => e = .returned (.string ⟨#[]⟩) ∧ Below B w w' := Any.Builder_String_empty Tryd.lays169 Tryd.Builder_Extra_169 B b w h hBw
open Go.RowKit in
theorem Tryd.Builder_String_any (B b : Nat) (l : List UInt8) (w : World) (h : Lib.IsBuilder 63 5 B b (Lib.byteCells l) w) (hBw : B ≤ w.heap.size) :
    Calls Tryd.prog 36 #[.pointer (some ⟨b, 0, none⟩)] w fun e w' => e = .returned (.string ⟨l.toArray⟩) ∧ Below B w w' := Any.Builder_String_any Tryd.lays169 Tryd.Builder_Extra_169 B b l w h hBw
def Tryd.lays241_ren : Go.Shelf.Ren := ⟨fun | 241 => 70 | 277 => 85 | n => n, fun | 70 => 60 | 3 => 3 | 0 => 0 | 72 => 63 | 37 => 61 | 5 => 5 | n => n, fun | n => n⟩
theorem Tryd.lays241 : Go.Proofs.Lays.n241 Tryd.prog Tryd.lays241_ren := {
  mixed := by kernel_rfl
  f241 := Tryd.func70.trans (congrArg some (by kernel_rfl))
  f277 := Tryd.func85.trans (congrArg some (by kernel_rfl))
  t0 := Tryd.underlying0
  a0 := Tryd.isAgg0
  z0 := Tryd.sizeOf0
  v0 := Tryd.zeroValue0
  t3 := Tryd.underlying3
  a3 := Tryd.isAgg3
  z3 := Tryd.sizeOf3
  v3 := Tryd.zeroValue3
  t37 := Tryd.underlying61
  a37 := Tryd.isAgg61
  z37 := Tryd.sizeOf61
  v37 := Tryd.zeroValue61
  t70 := Tryd.underlying60
  a70 := Tryd.isAgg60
  z70 := Tryd.sizeOf60
  v70 := Tryd.zeroValue60
  t72 := Tryd.underlying63
  a72 := Tryd.isAgg63
  z72 := Tryd.sizeOf63
  v72 := Tryd.zeroValue63 }
theorem Tryd.Builder_Extra_241 : Builder.Extra Tryd.prog Tryd.lays241_ren := {
  sizeBuilder := by kernel_rfl
  liesBuilder := by kernel_rfl
  t5 := Tryd.underlying5
  a5 := Tryd.isAgg5
  z5 := Tryd.sizeOf5
  v5 := Tryd.zeroValue5
  infoByte := by kernel_rfl
  cellsByte := by kernel_rfl
  sizeByte := by kernel_rfl
  neB5 := by decide }
open Go.RowKit in
theorem Tryd.Builder_grow_fresh (B b n : Nat) (w : World) (hB : B ≤ b) (hbk : w.heap[b]? = some (.cells #[.pointer (some ⟨b, 0, none⟩), .slice none 0 0] 63 (0, 0))) (hBw : B ≤ w.heap.size) (hn : n ≤ 281474976710656) :
    Calls Tryd.prog 70 #[.pointer (some ⟨b, 0, none⟩), .int .i64 n] w fun e w' => e = .returned (.tuple #[]) ∧ (Lib.BuilderAt 63 5 B b (.pointer (some ⟨b, 0, none⟩)) [] w' ∧ Below B w w') := Any.Builder_grow_fresh Tryd.lays241 Tryd.Builder_Extra_241 B b n w hB hbk hBw hn
def Tryd.lays165_ren : Go.Shelf.Ren := ⟨fun | 165 => 57 | 240 => 46 | 241 => 70 | 276 => 60 | 277 => 85 | n => n, fun | 70 => 60 | 3 => 3 | 0 => 0 | 4 => 4 | 9 => 9 | 20 => 20 | 72 => 63 | 37 => 61 | 164 => 103 | 5 => 5 | n => n, fun | n => n⟩
theorem Tryd.lays165 : Go.Proofs.Lays.n165 Tryd.prog Tryd.lays165_ren := {
  mixed := by kernel_rfl
  f165 := Tryd.func57.trans (congrArg some (by kernel_rfl))
  f240 := Tryd.func46.trans (congrArg some (by kernel_rfl))
  f241 := Tryd.func70.trans (congrArg some (by kernel_rfl))
  f276 := Tryd.func60.trans (congrArg some (by kernel_rfl))
  f277 := Tryd.func85.trans (congrArg some (by kernel_rfl))
  t0 := Tryd.underlying0
  a0 := Tryd.isAgg0
  z0 := Tryd.sizeOf0
  v0 := Tryd.zeroValue0
  t3 := Tryd.underlying3
  a3 := Tryd.isAgg3
  z3 := Tryd.sizeOf3
  v3 := Tryd.zeroValue3
  t4 := Tryd.underlying4
  a4 := Tryd.isAgg4
  z4 := Tryd.sizeOf4
  v4 := Tryd.zeroValue4
  t9 := Tryd.underlying9
  a9 := Tryd.isAgg9
  z9 := Tryd.sizeOf9
  v9 := Tryd.zeroValue9
  t20 := Tryd.underlying20
  a20 := Tryd.isAgg20
  z20 := Tryd.sizeOf20
  v20 := Tryd.zeroValue20
  t37 := Tryd.underlying61
  a37 := Tryd.isAgg61
  z37 := Tryd.sizeOf61
  v37 := Tryd.zeroValue61
  t70 := Tryd.underlying60
  a70 := Tryd.isAgg60
  z70 := Tryd.sizeOf60
  v70 := Tryd.zeroValue60
  t72 := Tryd.underlying63
  a72 := Tryd.isAgg63
  z72 := Tryd.sizeOf63
  v72 := Tryd.zeroValue63
  t164 := Tryd.underlying103
  a164 := Tryd.isAgg103
  z164 := Tryd.sizeOf103
  v164 := Tryd.zeroValue103 }
theorem Tryd.Builder_Extra_165 : Builder.Extra Tryd.prog Tryd.lays165_ren := {
  sizeBuilder := by kernel_rfl
  liesBuilder := by kernel_rfl
  t5 := Tryd.underlying5
  a5 := Tryd.isAgg5
  z5 := Tryd.sizeOf5
  v5 := Tryd.zeroValue5
  infoByte := by kernel_rfl
  cellsByte := by kernel_rfl
  sizeByte := by kernel_rfl
  neB5 := by decide }
open Go.RowKit in
theorem Tryd.Builder_Grow_fresh (B b n : Nat) (w : World) (hB : B ≤ b) (hbk : w.heap[b]? = some (.cells #[.pointer none, .slice none 0 0] 63 (0, 0))) (hBw : B ≤ w.heap.size) (hn : n ≤ 281474976710656) :
    Calls Tryd.prog 57 #[.pointer (some ⟨b, 0, none⟩), .int .i64 n] w fun e w' => e = .returned (.tuple #[]) ∧ (Lib.BuilderAt 63 5 B b (.pointer (some ⟨b, 0, none⟩)) [] w' ∧ Below B w w') := Any.Builder_Grow_fresh Tryd.lays165 Tryd.Builder_Extra_165 B b n w hB hbk hBw hn
def Tryd.lays156_ren : Go.Shelf.Ren := ⟨fun | 156 => 44 | 165 => 57 | 166 => 35 | 169 => 36 | 240 => 46 | 241 => 70 | 276 => 60 | 277 => 85 | n => n, fun | 31 => 76 | 9 => 9 | 3 => 3 | 4 => 4 | 0 => 0 | 20 => 20 | 72 => 63 | 76 => 64 | 70 => 60 | 37 => 61 | 75 => 41 | 127 => 90 | 164 => 103 | 5 => 5 | 80 => 66 | n => n, fun | n => n⟩
theorem Tryd.lays156 : Go.Proofs.Lays.n156 Tryd.prog Tryd.lays156_ren := {
  mixed := by kernel_rfl
  f156 := Tryd.func44.trans (congrArg some (by kernel_rfl))
  f165 := Tryd.func57.trans (congrArg some (by kernel_rfl))
  f166 := Tryd.func35.trans (congrArg some (by kernel_rfl))
  f169 := Tryd.func36.trans (congrArg some (by kernel_rfl))
  f240 := Tryd.func46.trans (congrArg some (by kernel_rfl))
  f241 := Tryd.func70.trans (congrArg some (by kernel_rfl))
  f276 := Tryd.func60.trans (congrArg some (by kernel_rfl))
  f277 := Tryd.func85.trans (congrArg some (by kernel_rfl))
  t0 := Tryd.underlying0
  a0 := Tryd.isAgg0
  z0 := Tryd.sizeOf0
  v0 := Tryd.zeroValue0
  t3 := Tryd.underlying3
  a3 := Tryd.isAgg3
  z3 := Tryd.sizeOf3
  v3 := Tryd.zeroValue3
  t4 := Tryd.underlying4
  a4 := Tryd.isAgg4
  z4 := Tryd.sizeOf4
  v4 := Tryd.zeroValue4
  t9 := Tryd.underlying9
  a9 := Tryd.isAgg9
  z9 := Tryd.sizeOf9
  v9 := Tryd.zeroValue9
  t20 := Tryd.underlying20
  a20 := Tryd.isAgg20
  z20 := Tryd.sizeOf20
  v20 := Tryd.zeroValue20
  t31 := Tryd.underlying76
  a31 := Tryd.isAgg76
  z31 := Tryd.sizeOf76
  v31 := Tryd.zeroValue76
  t37 := Tryd.underlying61
  a37 := Tryd.isAgg61
  z37 := Tryd.sizeOf61
  v37 := Tryd.zeroValue61
  t70 := Tryd.underlying60
  a70 := Tryd.isAgg60
  z70 := Tryd.sizeOf60
  v70 := Tryd.zeroValue60
  t72 := Tryd.underlying63
  a72 := Tryd.isAgg63
  z72 := Tryd.sizeOf63
  v72 := Tryd.zeroValue63
  t75 := Tryd.underlying41
  a75 := Tryd.isAgg41
  z75 := Tryd.sizeOf41
  v75 := Tryd.zeroValue41
  t76 := Tryd.underlying64
  a76 := Tryd.isAgg64
  z76 := Tryd.sizeOf64
  v76 := Tryd.zeroValue64
  t127 := Tryd.underlying90
  a127 := Tryd.isAgg90
  z127 := Tryd.sizeOf90
  v127 := Tryd.zeroValue90
  t164 := Tryd.underlying103
  a164 := Tryd.isAgg103
  z164 := Tryd.sizeOf103
  v164 := Tryd.zeroValue103 }
theorem Tryd.Builder_Extra_156 : Builder.Extra Tryd.prog Tryd.lays156_ren := {
  sizeBuilder := by kernel_rfl
  liesBuilder := by kernel_rfl
  t5 := Tryd.underlying5
  a5 := Tryd.isAgg5
  z5 := Tryd.sizeOf5
  v5 := Tryd.zeroValue5
  infoByte := by kernel_rfl
  cellsByte := by kernel_rfl
  sizeByte := by kernel_rfl
  neB5 := by decide }
open Go.RowKit in
theorem Tryd.strings_Join_none (a : Option Addr) (c : Nat) (sep : ByteArray) (w : World) :
    Calls Tryd.prog 44 #[.slice a 0 c, .string sep] w fun e w' => e = .returned (.string ⟨#[]⟩) ∧ w' = w := Any.strings_Join_none Tryd.lays156 Tryd.Builder_Extra_156 a c sep w
open Go.RowKit in
theorem Tryd.strings_Join (bk o c : Nat) (xs : List ByteArray) (sep : ByteArray) (w : World) (hcells : ∀ (j : Nat) x, xs[j]? = some x → w.cell? ⟨bk, o + j, none⟩ = some (.string x)) (hbk : bk < w.heap.size) (hN : xs.length ≤ 140737488355328) (hcap : xs.length ≤ c) (hlen : (Lib.join (xs.map (·.data.toList)) sep.data.toList).length ≤ 140737488355328) :
    Calls Tryd.prog 44 #[.slice (some ⟨bk, o, none⟩) xs.length c, .string sep] w fun e w' => e = .returned (.string ⟨(Lib.join (xs.map (·.data.toList)) sep.data.toList).toArray⟩) ∧ Below w.heap.size w w' := Any.strings_Join Tryd.lays156 Tryd.Builder_Extra_156 bk o c xs sep w hcells hbk hN hcap hlen
def Tryd.lays231_ren : Go.Shelf.Ren := ⟨fun | 231 => 76 | n => n, fun | 9 => 9 | 5 => 5 | 3 => 3 | 4 => 4 | n => n, fun | n => n⟩
theorem Tryd.lays231 : Go.Proofs.Lays.n231 Tryd.prog Tryd.lays231_ren := {
  mixed := by kernel_rfl
  f231 := Tryd.func76.trans (congrArg some (by kernel_rfl))
  t3 := Tryd.underlying3
  a3 := Tryd.isAgg3
  z3 := Tryd.sizeOf3
  v3 := Tryd.zeroValue3
  t4 := Tryd.underlying4
  a4 := Tryd.isAgg4
  z4 := Tryd.sizeOf4
  v4 := Tryd.zeroValue4
  t5 := Tryd.underlying5
  a5 := Tryd.isAgg5
  z5 := Tryd.sizeOf5
  v5 := Tryd.zeroValue5
  t9 := Tryd.underlying9
  a9 := Tryd.isAgg9
  z9 := Tryd.sizeOf9
  v9 := Tryd.zeroValue9 }
open Go.RowKit in
theorem Tryd.strings_trimLeftByte (s : ByteArray) (c : UInt8) (w : World) :
    Calls Tryd.prog 76 #[.string s, .int .u8 c.toNat] w fun e w' => e = .returned (.string ⟨(Lib.trimLeftB s.data.toList c).toArray⟩) ∧ w' = w := Any.strings_trimLeftByte Tryd.lays231 s c w
def Tryd.lays232_ren : Go.Shelf.Ren := ⟨fun | 232 => 77 | n => n, fun | 9 => 9 | 5 => 5 | 3 => 3 | 4 => 4 | n => n, fun | n => n⟩
theorem Tryd.lays232 : Go.Proofs.Lays.n232 Tryd.prog Tryd.lays232_ren := {
  mixed := by kernel_rfl
  f232 := Tryd.func77.trans (congrArg some (by kernel_rfl))
  t3 := Tryd.underlying3
  a3 := Tryd.isAgg3
  z3 := Tryd.sizeOf3
  v3 := Tryd.zeroValue3
  t4 := Tryd.underlying4
  a4 := Tryd.isAgg4
  z4 := Tryd.sizeOf4
  v4 := Tryd.zeroValue4
  t5 := Tryd.underlying5
  a5 := Tryd.isAgg5
  z5 := Tryd.sizeOf5
  v5 := Tryd.zeroValue5
  t9 := Tryd.underlying9
  a9 := Tryd.isAgg9
  z9 := Tryd.sizeOf9
  v9 := Tryd.zeroValue9 }
open Go.RowKit in
theorem Tryd.strings_trimRightByte (s : ByteArray) (c : UInt8) (w : World) (hs : s.size ≤ 9223372036854775807) :
    Calls Tryd.prog 77 #[.string s, .int .u8 c.toNat] w fun e w' => e = .returned (.string ⟨(Lib.trimRightB s.data.toList c).toArray⟩) ∧ w' = w := Any.strings_trimRightByte Tryd.lays232 s c w hs
def Tryd.lays160_ren : Go.Shelf.Ren := ⟨fun | 160 => 68 | 232 => 77 | 231 => 76 | 227 => 78 | 234 => 80 | 233 => 79 | 236 => 82 | 235 => 81 | 228 => 92 | 271 => 95 | 151 => 94 | 197 => 93 | 120 => 103 | 152 => 102 | 260 => 101 | 137 => 104 | 119 => 105 | 224 => 90 | 225 => 89 | 217 => 88 | 266 => 99 | n => n, fun | 9 => 9 | 4 => 4 | 3 => 3 | 5 => 5 | 117 => 118 | 116 => 117 | 0 => 0 | 124 => 121 | 21 => 21 | 105 => 127 | 46 => 126 | 119 => 134 | 139 => 137 | 138 => 136 | n => n, fun | 3 => 1 | 4 => 2 | n => n⟩
theorem Tryd.lays160 : Go.Proofs.Lays.n160 Tryd.prog Tryd.lays160_ren := {
  mixed := by kernel_rfl
  f119 := Tryd.func105.trans (congrArg some (by kernel_rfl))
  f120 := Tryd.func103.trans (congrArg some (by kernel_rfl))
  f137 := Tryd.func104.trans (congrArg some (by kernel_rfl))
  f151 := Tryd.func94.trans (congrArg some (by kernel_rfl))
  f152 := Tryd.func102.trans (congrArg some (by kernel_rfl))
  f160 := Tryd.func68.trans (congrArg some (by kernel_rfl))
  f197 := Tryd.func93.trans (congrArg some (by kernel_rfl))
  f217 := Tryd.func88.trans (congrArg some (by kernel_rfl))
  f224 := Tryd.func90.trans (congrArg some (by kernel_rfl))
  f225 := Tryd.func89.trans (congrArg some (by kernel_rfl))
  f227 := Tryd.func78.trans (congrArg some (by kernel_rfl))
  f228 := Tryd.func92.trans (congrArg some (by kernel_rfl))
  f231 := Tryd.func76.trans (congrArg some (by kernel_rfl))
  f232 := Tryd.func77.trans (congrArg some (by kernel_rfl))
  f233 := Tryd.func79.trans (congrArg some (by kernel_rfl))
  f234 := Tryd.func80.trans (congrArg some (by kernel_rfl))
  f235 := Tryd.func81.trans (congrArg some (by kernel_rfl))
  f236 := Tryd.func82.trans (congrArg some (by kernel_rfl))
  f260 := Tryd.func101.trans (congrArg some (by kernel_rfl))
  f266 := Tryd.func99.trans (congrArg some (by kernel_rfl))
  f271 := Tryd.func95.trans (congrArg some (by kernel_rfl))
  t0 := Tryd.underlying0
  a0 := Tryd.isAgg0
  z0 := Tryd.sizeOf0
  v0 := Tryd.zeroValue0
  t3 := Tryd.underlying3
  a3 := Tryd.isAgg3
  z3 := Tryd.sizeOf3
  v3 := Tryd.zeroValue3
  t4 := Tryd.underlying4
  a4 := Tryd.isAgg4
  z4 := Tryd.sizeOf4
  v4 := Tryd.zeroValue4
  t5 := Tryd.underlying5
  a5 := Tryd.isAgg5
  z5 := Tryd.sizeOf5
  v5 := Tryd.zeroValue5
  t9 := Tryd.underlying9
  a9 := Tryd.isAgg9
  z9 := Tryd.sizeOf9
  v9 := Tryd.zeroValue9
  t21 := Tryd.underlying21
  a21 := Tryd.isAgg21
  z21 := Tryd.sizeOf21
  v21 := Tryd.zeroValue21
  t46 := Tryd.underlying126
  a46 := Tryd.isAgg126
  z46 := Tryd.sizeOf126
  v46 := Tryd.zeroValue126
  t105 := Tryd.underlying127
  a105 := Tryd.isAgg127
  z105 := Tryd.sizeOf127
  v105 := Tryd.zeroValue127
  t116 := Tryd.underlying117
  a116 := Tryd.isAgg117
  z116 := Tryd.sizeOf117
  t117 := Tryd.underlying118
  a117 := Tryd.isAgg118
  z117 := Tryd.sizeOf118
  v117 := Tryd.zeroValue118
  t119 := Tryd.underlying134
  a119 := Tryd.isAgg134
  z119 := Tryd.sizeOf134
  t124 := Tryd.underlying121
  a124 := Tryd.isAgg121
  z124 := Tryd.sizeOf121
  v124 := Tryd.zeroValue121
  t138 := Tryd.underlying136
  a138 := Tryd.isAgg136
  z138 := Tryd.sizeOf136
  v138 := Tryd.zeroValue136
  t139 := Tryd.underlying137
  a139 := Tryd.isAgg137
  z139 := Tryd.sizeOf137
  v139 := Tryd.zeroValue137
  g3 := by kernel_rfl
  g4 := by kernel_rfl }
open Go.RowKit in
theorem Tryd.strings_Trim_one (s : ByteArray) (c : UInt8) (hc : c.toNat < 128) (w : World) (hs : s.size ≤ 9223372036854775807) :
    Calls Tryd.prog 68 #[.string s, .string ⟨#[c]⟩] w fun e w' => e = .returned (.string ⟨(Lib.trimB s.data.toList c).toArray⟩) ∧ (w' = w ∨ w' = w.drew) := Any.strings_Trim_one Tryd.lays160 s c hc w hs
def Tryd.lays119_ren : Go.Shelf.Ren := ⟨fun | 119 => 105 | n => n, fun | 21 => 21 | 4 => 4 | n => n, fun | n => n⟩
def Tryd.lays120_ren : Go.Shelf.Ren := ⟨fun | 120 => 103 | n => n, fun | 5 => 5 | 4 => 4 | n => n, fun | n => n⟩
def Tryd.lays137_ren : Go.Shelf.Ren := ⟨fun | 137 => 104 | 217 => 88 | 266 => 99 | n => n, fun | 9 => 9 | 5 => 5 | 3 => 3 | n => n, fun | n => n⟩
theorem Tryd.lays137 : Go.Proofs.Lays.n137 Tryd.prog Tryd.lays137_ren := {
  mixed := by kernel_rfl
  f137 := Tryd.func104.trans (congrArg some (by kernel_rfl))
  f217 := Tryd.func88.trans (congrArg some (by kernel_rfl))
  f266 := Tryd.func99.trans (congrArg some (by kernel_rfl))
  t3 := Tryd.underlying3
  a3 := Tryd.isAgg3
  z3 := Tryd.sizeOf3
  v3 := Tryd.zeroValue3
  t5 := Tryd.underlying5
  a5 := Tryd.isAgg5
  z5 := Tryd.sizeOf5
  v5 := Tryd.zeroValue5
  t9 := Tryd.underlying9
  a9 := Tryd.isAgg9
  z9 := Tryd.sizeOf9
  v9 := Tryd.zeroValue9 }
open Go.RowKit in
theorem Tryd.strings_IndexByte (s : ByteArray) (c : Int) (w : World) :
    Calls Tryd.prog 104 #[.string s, .int .u8 c] w fun e w' => e = .returned (.int .i64 (Lib.indexByte s.data.toList c.toNat.toUInt8)) ∧ w' = w := Any.strings_IndexByte Tryd.lays137 s c w
open Go.RowKit in
theorem Tryd.Builder_String_f (B b : Nat) (l : List UInt8) (w : World) (h : Lib.IsBuilderF 63 5 B b (Lib.byteCells l) w) (h0 : l ≠ []) :
    Calls Tryd.prog 36 #[.pointer (some ⟨b, 0, none⟩)] w fun e w' => e = .returned (.string ⟨l.toArray⟩) ∧ (Lib.IsBuilderF 63 5 B b (Lib.byteCells l) w' ∧ Below B w w') := Any.Builder_String_f Tryd.lays169 Tryd.Builder_Extra_169 B b l w h h0
open Go.RowKit in
theorem Tryd.Builder_String_empty_f (B b : Nat) (w : World) (h : Lib.IsBuilderF 63 5 B b [] w) (hBw : B ≤ w.heap.size) :
    Calls Tryd.prog 36 #[.pointer (some ⟨b, 0, none⟩)] w fun e w' => e = .returned (.string ⟨#[]⟩) ∧ (Lib.IsBuilderF 63 5 B b [] w' ∧ Below B w w') := Any.Builder_String_empty_f Tryd.lays169 Tryd.Builder_Extra_169 B b w h hBw
open Go.RowKit in
theorem Tryd.Builder_String_any_f (B b : Nat) (l : List UInt8) (w : World) (h : Lib.IsBuilderF 63 5 B b (Lib.byteCells l) w) (hBw : B ≤ w.heap.size) :
    Calls Tryd.prog 36 #[.pointer (some ⟨b, 0, none⟩)] w fun e w' => e = .returned (.string ⟨l.toArray⟩) ∧ (Lib.IsBuilderF 63 5 B b (Lib.byteCells l) w' ∧ Below B w w') := Any.Builder_String_any_f Tryd.lays169 Tryd.Builder_Extra_169 B b l w h hBw
open Go.RowKit in
theorem Tryd.Builder_String_k (B b : Nat) (l : List UInt8) (w : World) (h : Lib.IsBuilderF 63 5 B b (Lib.byteCells l) w) (h0 : l ≠ []) :
    Calls Tryd.prog 36 #[.pointer (some ⟨b, 0, none⟩)] w fun e w' => e = .returned (.string ⟨l.toArray⟩) ∧ (Lib.IsBuilderF 63 5 B b (Lib.byteCells l) w' ∧ Below B w w' ∧ Lib.OthersKept 5 (some b) w w') := Any.Builder_String_k Tryd.lays169 Tryd.Builder_Extra_169 B b l w h h0
open Go.RowKit in
theorem Tryd.Builder_String_empty_k (B b : Nat) (w : World) (h : Lib.IsBuilderF 63 5 B b [] w) (hBw : B ≤ w.heap.size) :
    Calls Tryd.prog 36 #[.pointer (some ⟨b, 0, none⟩)] w fun e w' => e = .returned (.string ⟨#[]⟩) ∧ (Lib.IsBuilderF 63 5 B b [] w' ∧ Below B w w' ∧ Lib.OthersKept 5 (some b) w w') := Any.Builder_String_empty_k Tryd.lays169 Tryd.Builder_Extra_169 B b w h hBw
open Go.RowKit in
theorem Tryd.Builder_String_any_k (B b : Nat) (l : List UInt8) (w : World) (h : Lib.IsBuilderF 63 5 B b (Lib.byteCells l) w) (hBw : B ≤ w.heap.size) :
    Calls Tryd.prog 36 #[.pointer (some ⟨b, 0, none⟩)] w fun e w' => e = .returned (.string ⟨l.toArray⟩) ∧ (Lib.IsBuilderF 63 5 B b (Lib.byteCells l) w' ∧ Below B w w' ∧ Lib.OthersKept 5 (some b) w w') := Any.Builder_String_any_k Tryd.lays169 Tryd.Builder_Extra_169 B b l w h hBw
def Tryd.lays195_ren : Go.Shelf.Ren := ⟨fun | 195 => 97 | n => n, fun | 9 => 9 | 3 => 3 | 0 => 0 | 4 => 4 | n => n, fun | n => n⟩
theorem Tryd.lays195 : Go.Proofs.Lays.n195 Tryd.prog Tryd.lays195_ren := {
  mixed := by kernel_rfl
  f195 := Tryd.func97.trans (congrArg some (by kernel_rfl))
  t0 := Tryd.underlying0
  a0 := Tryd.isAgg0
  z0 := Tryd.sizeOf0
  v0 := Tryd.zeroValue0
  t3 := Tryd.underlying3
  a3 := Tryd.isAgg3
  z3 := Tryd.sizeOf3
  v3 := Tryd.zeroValue3
  t4 := Tryd.underlying4
  a4 := Tryd.isAgg4
  z4 := Tryd.sizeOf4
  v4 := Tryd.zeroValue4
  t9 := Tryd.underlying9
  a9 := Tryd.isAgg9
  z9 := Tryd.sizeOf9
  v9 := Tryd.zeroValue9 }
open Go.RowKit in
theorem Tryd.utf8_RuneCountInString (s : ByteArray) (w : World) (hs : s.size < 9223372036854775807) :
    Calls Tryd.prog 97 #[.string s] w fun e w' => e = .returned (.int .i64 (Lib.runeCount s)) ∧ ∃ pos, w' = w.iter s pos := Any.utf8_RuneCountInString Tryd.lays195 s w hs
open Go.RowKit in
theorem Tryd.Builder_grow_fresh_cap (B b n : Nat) (w : World) (hB : B ≤ b) (hbk : w.heap[b]? = some (.cells #[.pointer (some ⟨b, 0, none⟩), .slice none 0 0] 63 (0, 0))) (hBw : B ≤ w.heap.size) (hn : n ≤ 281474976710656) :
    Calls Tryd.prog 70 #[.pointer (some ⟨b, 0, none⟩), .int .i64 n] w fun e w' => e = .returned (.tuple #[]) ∧ (Lib.BuilderAt 63 5 B b (.pointer (some ⟨b, 0, none⟩)) [] w' ∧ Below B w w') ∧ ∃ p cap, w'.cell? ⟨b, 1, none⟩ = some (.slice p 0 cap) ∧ n ≤ cap := Any.Builder_grow_fresh_cap Tryd.lays241 Tryd.Builder_Extra_241 B b n w hB hbk hBw hn
open Go.RowKit in
theorem Tryd.Builder_Grow_fresh_cap (B b n : Nat) (w : World) (hB : B ≤ b) (hbk : w.heap[b]? = some (.cells #[.pointer none, .slice none 0 0] 63 (0, 0))) (hBw : B ≤ w.heap.size) (hn : n ≤ 281474976710656) :
    Calls Tryd.prog 57 #[.pointer (some ⟨b, 0, none⟩), .int .i64 n] w fun e w' => e = .returned (.tuple #[]) ∧ (Lib.BuilderAt 63 5 B b (.pointer (some ⟨b, 0, none⟩)) [] w' ∧ Below B w w') ∧ ∃ p cap, w'.cell? ⟨b, 1, none⟩ = some (.slice p 0 cap) ∧ n ≤ cap := Any.Builder_Grow_fresh_cap Tryd.lays165 Tryd.Builder_Extra_165 B b n w hB hbk hBw hn
def Tryd.lays217_ren : Go.Shelf.Ren := ⟨fun | 217 => 88 | 266 => 99 | n => n, fun | 9 => 9 | 5 => 5 | 3 => 3 | n => n, fun | n => n⟩
theorem Tryd.lays217 : Go.Proofs.Lays.n217 Tryd.prog Tryd.lays217_ren := {
  mixed := by kernel_rfl
  f217 := Tryd.func88.trans (congrArg some (by kernel_rfl))
  f266 := Tryd.func99.trans (congrArg some (by kernel_rfl))
  t3 := Tryd.underlying3
  a3 := Tryd.isAgg3
  z3 := Tryd.sizeOf3
  v3 := Tryd.zeroValue3
  t5 := Tryd.underlying5
  a5 := Tryd.isAgg5
  z5 := Tryd.sizeOf5
  v5 := Tryd.zeroValue5
  t9 := Tryd.underlying9
  a9 := Tryd.isAgg9
  z9 := Tryd.sizeOf9
  v9 := Tryd.zeroValue9 }
open Go.RowKit Go.Lib in
theorem Tryd.stringslite_IndexByte (s : ByteArray) (c : Int) (w : World) :
    Calls Tryd.prog 88 #[.string s, .int .u8 c] w fun e w' => e = .returned (.int .i64 (Lib.indexByte s.data.toList c.toNat.toUInt8)) ∧ w' = w := Any.stringslite_IndexByte Tryd.lays217 s c w
def Tryd.lays224_ren : Go.Shelf.Ren := ⟨fun | 224 => 90 | n => n, fun | 3 => 3 | n => n, fun | n => n⟩
theorem Tryd.lays224 : Go.Proofs.Lays.n224 Tryd.prog Tryd.lays224_ren := {
  mixed := by kernel_rfl
  f224 := Tryd.func90.trans (congrArg some (by kernel_rfl))
  t3 := Tryd.underlying3
  a3 := Tryd.isAgg3
  z3 := Tryd.sizeOf3
  v3 := Tryd.zeroValue3 }
open Go.RowKit Go.Lib in
theorem Tryd.bytealg_Cutover (n : Int) (h0 : 0 ≤ n) (h1 : n < 4611686018427387904) (w : World) :
    Calls Tryd.prog 90 #[.int .i64 n] w fun e w' => e = .returned (.int .i64 ((n + 16) / 8)) ∧ w' = w := Any.bytealg_Cutover Tryd.lays224 n h0 h1 w
def Tryd.lays314_ren : Go.Shelf.Ren := ⟨fun | 314 => 100 | n => n, fun | 9 => 9 | 51 => 130 | 3 => 3 | 4 => 4 | 5 => 5 | 46 => 126 | n => n, fun | n => n⟩
theorem Tryd.lays314 : Go.Proofs.Lays.n314 Tryd.prog Tryd.lays314_ren := {
  mixed := by kernel_rfl
  f314 := Tryd.func100.trans (congrArg some (by kernel_rfl))
  t3 := Tryd.underlying3
  a3 := Tryd.isAgg3
  z3 := Tryd.sizeOf3
  v3 := Tryd.zeroValue3
  t4 := Tryd.underlying4
  a4 := Tryd.isAgg4
  z4 := Tryd.sizeOf4
  v4 := Tryd.zeroValue4
  t5 := Tryd.underlying5
  a5 := Tryd.isAgg5
  z5 := Tryd.sizeOf5
  v5 := Tryd.zeroValue5
  t9 := Tryd.underlying9
  a9 := Tryd.isAgg9
  z9 := Tryd.sizeOf9
  v9 := Tryd.zeroValue9
  t46 := Tryd.underlying126
  a46 := Tryd.isAgg126
  z46 := Tryd.sizeOf126
  v46 := Tryd.zeroValue126
  t51 := Tryd.underlying130
  a51 := Tryd.isAgg130
  z51 := Tryd.sizeOf130
  v51 := Tryd.zeroValue130 }
open Go.RowKit Go.Lib in
theorem Tryd.bytealg_hashStr (sep : ByteArray) (hs : sep.size < 4294967281) (w : World) :
    Calls Tryd.prog 100 #[.string sep] w fun e w' => e = .returned (.tuple #[.int .u32 (RK.H sep.data.toList % 4294967296), .int .u32 (16777619 ^ sep.size % 4294967296)]) ∧ w' = w := Any.bytealg_hashStr Tryd.lays314 sep hs w
def Tryd.lays267_ren : Go.Shelf.Ren := ⟨fun | 267 => 91 | 314 => 100 | n => n, fun | 9 => 9 | 3 => 3 | 146 => 131 | 51 => 130 | 4 => 4 | 5 => 5 | 46 => 126 | n => n, fun | n => n⟩
theorem Tryd.lays267 : Go.Proofs.Lays.n267 Tryd.prog Tryd.lays267_ren := {
  mixed := by kernel_rfl
  f267 := Tryd.func91.trans (congrArg some (by kernel_rfl))
  f314 := Tryd.func100.trans (congrArg some (by kernel_rfl))
  t3 := Tryd.underlying3
  a3 := Tryd.isAgg3
  z3 := Tryd.sizeOf3
  v3 := Tryd.zeroValue3
  t4 := Tryd.underlying4
  a4 := Tryd.isAgg4
  z4 := Tryd.sizeOf4
  v4 := Tryd.zeroValue4
  t5 := Tryd.underlying5
  a5 := Tryd.isAgg5
  z5 := Tryd.sizeOf5
  v5 := Tryd.zeroValue5
  t9 := Tryd.underlying9
  a9 := Tryd.isAgg9
  z9 := Tryd.sizeOf9
  v9 := Tryd.zeroValue9
  t46 := Tryd.underlying126
  a46 := Tryd.isAgg126
  z46 := Tryd.sizeOf126
  v46 := Tryd.zeroValue126
  t51 := Tryd.underlying130
  a51 := Tryd.isAgg130
  z51 := Tryd.sizeOf130
  v51 := Tryd.zeroValue130
  t146 := Tryd.underlying131
  a146 := Tryd.isAgg131
  z146 := Tryd.sizeOf131
  v146 := Tryd.zeroValue131 }
open Go.RowKit Go.Lib in
theorem Tryd.bytealg_IndexRabinKarp (s sep : ByteArray) (h1 : 1 ≤ sep.size) (h2 : sep.size ≤ s.size) (hs : s.size < 4294967281) (w : World) :
    Calls Tryd.prog 91 #[.string s, .string sep] w fun e w' => e = .returned (.int .i64 (Lib.index s.data.toList sep.data.toList)) ∧ w' = w := Any.bytealg_IndexRabinKarp Tryd.lays267 s sep h1 h2 hs w
def Tryd.lays219_ren : Go.Shelf.Ren := ⟨fun | 219 => 75 | 217 => 88 | 225 => 89 | 224 => 90 | 267 => 91 | 266 => 99 | 314 => 100 | n => n, fun | 9 => 9 | 3 => 3 | 4 => 4 | 5 => 5 | 46 => 126 | 146 => 131 | 51 => 130 | n => n, fun | 1 => 0 | n => n⟩
theorem Tryd.lays219 : Go.Proofs.Lays.n219 Tryd.prog Tryd.lays219_ren := {
  mixed := by kernel_rfl
  f217 := Tryd.func88.trans (congrArg some (by kernel_rfl))
  f219 := Tryd.func75.trans (congrArg some (by kernel_rfl))
  f224 := Tryd.func90.trans (congrArg some (by kernel_rfl))
  f225 := Tryd.func89.trans (congrArg some (by kernel_rfl))
  f266 := Tryd.func99.trans (congrArg some (by kernel_rfl))
  f267 := Tryd.func91.trans (congrArg some (by kernel_rfl))
  f314 := Tryd.func100.trans (congrArg some (by kernel_rfl))
  t3 := Tryd.underlying3
  a3 := Tryd.isAgg3
  z3 := Tryd.sizeOf3
  v3 := Tryd.zeroValue3
  t4 := Tryd.underlying4
  a4 := Tryd.isAgg4
  z4 := Tryd.sizeOf4
  v4 := Tryd.zeroValue4
  t5 := Tryd.underlying5
  a5 := Tryd.isAgg5
  z5 := Tryd.sizeOf5
  v5 := Tryd.zeroValue5
  t9 := Tryd.underlying9
  a9 := Tryd.isAgg9
  z9 := Tryd.sizeOf9
  v9 := Tryd.zeroValue9
  t46 := Tryd.underlying126
  a46 := Tryd.isAgg126
  z46 := Tryd.sizeOf126
  v46 := Tryd.zeroValue126
  t51 := Tryd.underlying130
  a51 := Tryd.isAgg130
  z51 := Tryd.sizeOf130
  v51 := Tryd.zeroValue130
  t146 := Tryd.underlying131
  a146 := Tryd.isAgg131
  z146 := Tryd.sizeOf131
  v146 := Tryd.zeroValue131
  g1 := by kernel_rfl }
open Go.RowKit Go.Lib in
theorem Tryd.stringslite_Index_one (s : ByteArray) (c : UInt8) (w : World) :
    Calls Tryd.prog 75 #[.string s, .string ⟨#[c]⟩] w fun e w' => e = .returned (.int .i64 (Lib.indexByte s.data.toList c)) ∧ w' = w := Any.stringslite_Index_one Tryd.lays219 s c w
open Go.RowKit Go.Lib in
theorem Tryd.stringslite_Index (s sub : ByteArray) (m : Int) (w : World) (hs : s.size < 4294967281) (hm : w.cell? ⟨0, 0, none⟩ = some (.int .i64 m)) :
    Calls Tryd.prog 75 #[.string s, .string sub] w fun e w' => e = .returned (.int .i64 (Lib.index s.data.toList sub.data.toList)) ∧ w' = w := Any.stringslite_Index Tryd.lays219 s sub m w hs hm
def Tryd.lays143_ren : Go.Shelf.Ren := ⟨fun | 143 => 74 | 219 => 75 | 217 => 88 | 225 => 89 | 224 => 90 | 267 => 91 | 266 => 99 | 314 => 100 | n => n, fun | 9 => 9 | 3 => 3 | 4 => 4 | 5 => 5 | 46 => 126 | 146 => 131 | 51 => 130 | n => n, fun | 1 => 0 | n => n⟩
theorem Tryd.lays143 : Go.Proofs.Lays.n143 Tryd.prog Tryd.lays143_ren := {
  mixed := by kernel_rfl
  f143 := Tryd.func74.trans (congrArg some (by kernel_rfl))
  f217 := Tryd.func88.trans (congrArg some (by kernel_rfl))
  f219 := Tryd.func75.trans (congrArg some (by kernel_rfl))
  f224 := Tryd.func90.trans (congrArg some (by kernel_rfl))
  f225 := Tryd.func89.trans (congrArg some (by kernel_rfl))
  f266 := Tryd.func99.trans (congrArg some (by kernel_rfl))
  f267 := Tryd.func91.trans (congrArg some (by kernel_rfl))
  f314 := Tryd.func100.trans (congrArg some (by kernel_rfl))
  t3 := Tryd.underlying3
  a3 := Tryd.isAgg3
  z3 := Tryd.sizeOf3
  v3 := Tryd.zeroValue3
  t4 := Tryd.underlying4
  a4 := Tryd.isAgg4
  z4 := Tryd.sizeOf4
  v4 := Tryd.zeroValue4
  t5 := Tryd.underlying5
  a5 := Tryd.isAgg5
  z5 := Tryd.sizeOf5
  v5 := Tryd.zeroValue5
  t9 := Tryd.underlying9
  a9 := Tryd.isAgg9
  z9 := Tryd.sizeOf9
  v9 := Tryd.zeroValue9
  t46 := Tryd.underlying126
  a46 := Tryd.isAgg126
  z46 := Tryd.sizeOf126
  v46 := Tryd.zeroValue126
  t51 := Tryd.underlying130
  a51 := Tryd.isAgg130
  z51 := Tryd.sizeOf130
  v51 := Tryd.zeroValue130
  t146 := Tryd.underlying131
  a146 := Tryd.isAgg131
  z146 := Tryd.sizeOf131
  v146 := Tryd.zeroValue131
  g1 := by kernel_rfl }
open Go.RowKit Go.Lib in
theorem Tryd.strings_Index_one (s : ByteArray) (c : UInt8) (w : World) :
    Calls Tryd.prog 74 #[.string s, .string ⟨#[c]⟩] w fun e w' => e = .returned (.int .i64 (Lib.indexByte s.data.toList c)) ∧ w' = w := Any.strings_Index_one Tryd.lays143 s c w
open Go.RowKit Go.Lib in
theorem Tryd.strings_Index (s sub : ByteArray) (m : Int) (w : World) (hs : s.size < 4294967281) (hm : w.cell? ⟨0, 0, none⟩ = some (.int .i64 m)) :
    Calls Tryd.prog 74 #[.string s, .string sub] w fun e w' => e = .returned (.int .i64 (Lib.index s.data.toList sub.data.toList)) ∧ w' = w := Any.strings_Index Tryd.lays143 s sub m w hs hm
def Tryd.lays144_ren : Go.Shelf.Ren := ⟨fun | 144 => 65 | 143 => 74 | 219 => 75 | 217 => 88 | 225 => 89 | 224 => 90 | 267 => 91 | 266 => 99 | 314 => 100 | n => n, fun | 9 => 9 | 4 => 4 | 3 => 3 | 5 => 5 | 46 => 126 | 146 => 131 | 51 => 130 | n => n, fun | 1 => 0 | n => n⟩
theorem Tryd.lays144 : Go.Proofs.Lays.n144 Tryd.prog Tryd.lays144_ren := {
  mixed := by kernel_rfl
  f143 := Tryd.func74.trans (congrArg some (by kernel_rfl))
  f144 := Tryd.func65.trans (congrArg some (by kernel_rfl))
  f217 := Tryd.func88.trans (congrArg some (by kernel_rfl))
  f219 := Tryd.func75.trans (congrArg some (by kernel_rfl))
  f224 := Tryd.func90.trans (congrArg some (by kernel_rfl))
  f225 := Tryd.func89.trans (congrArg some (by kernel_rfl))
  f266 := Tryd.func99.trans (congrArg some (by kernel_rfl))
  f267 := Tryd.func91.trans (congrArg some (by kernel_rfl))
  f314 := Tryd.func100.trans (congrArg some (by kernel_rfl))
  t3 := Tryd.underlying3
  a3 := Tryd.isAgg3
  z3 := Tryd.sizeOf3
  v3 := Tryd.zeroValue3
  t4 := Tryd.underlying4
  a4 := Tryd.isAgg4
  z4 := Tryd.sizeOf4
  v4 := Tryd.zeroValue4
  t5 := Tryd.underlying5
  a5 := Tryd.isAgg5
  z5 := Tryd.sizeOf5
  v5 := Tryd.zeroValue5
  t9 := Tryd.underlying9
  a9 := Tryd.isAgg9
  z9 := Tryd.sizeOf9
  v9 := Tryd.zeroValue9
  t46 := Tryd.underlying126
  a46 := Tryd.isAgg126
  z46 := Tryd.sizeOf126
  v46 := Tryd.zeroValue126
  t51 := Tryd.underlying130
  a51 := Tryd.isAgg130
  z51 := Tryd.sizeOf130
  v51 := Tryd.zeroValue130
  t146 := Tryd.underlying131
  a146 := Tryd.isAgg131
  z146 := Tryd.sizeOf131
  v146 := Tryd.zeroValue131
  g1 := by kernel_rfl }
open Go.RowKit Go.Lib in
theorem Tryd.strings_Contains_one (s : ByteArray) (c : UInt8) (w : World) :
    Calls Tryd.prog 65 #[.string s, .string ⟨#[c]⟩] w fun e w' => e = .returned (.bool (decide (0 ≤ Lib.indexByte s.data.toList c))) ∧ w' = w := Any.strings_Contains_one Tryd.lays144 s c w
open Go.RowKit Go.Lib in
theorem Tryd.strings_Contains (s sub : ByteArray) (m : Int) (w : World) (hs : s.size < 4294967281) (hm : w.cell? ⟨0, 0, none⟩ = some (.int .i64 m)) :
    Calls Tryd.prog 65 #[.string s, .string sub] w fun e w' => e = .returned (.bool (Lib.contains s.data.toList sub.data.toList)) ∧ w' = w := Any.strings_Contains Tryd.lays144 s sub m w hs hm
def Tryd.lays220_ren : Go.Shelf.Ren := ⟨fun | 220 => 67 | 219 => 75 | 217 => 88 | 225 => 89 | 224 => 90 | 267 => 91 | 266 => 99 | 314 => 100 | n => n, fun | 9 => 9 | 4 => 4 | 3 => 3 | 5 => 5 | 46 => 126 | 146 => 131 | 51 => 130 | n => n, fun | 1 => 0 | n => n⟩
theorem Tryd.lays220 : Go.Proofs.Lays.n220 Tryd.prog Tryd.lays220_ren := {
  mixed := by kernel_rfl
  f217 := Tryd.func88.trans (congrArg some (by kernel_rfl))
  f219 := Tryd.func75.trans (congrArg some (by kernel_rfl))
  f220 := Tryd.func67.trans (congrArg some (by kernel_rfl))
  f224 := Tryd.func90.trans (congrArg some (by kernel_rfl))
  f225 := Tryd.func89.trans (congrArg some (by kernel_rfl))
  f266 := Tryd.func99.trans (congrArg some (by kernel_rfl))
  f267 := Tryd.func91.trans (congrArg some (by kernel_rfl))
  f314 := Tryd.func100.trans (congrArg some (by kernel_rfl))
  t3 := Tryd.underlying3
  a3 := Tryd.isAgg3
  z3 := Tryd.sizeOf3
  v3 := Tryd.zeroValue3
  t4 := Tryd.underlying4
  a4 := Tryd.isAgg4
  z4 := Tryd.sizeOf4
  v4 := Tryd.zeroValue4
  t5 := Tryd.underlying5
  a5 := Tryd.isAgg5
  z5 := Tryd.sizeOf5
  v5 := Tryd.zeroValue5
  t9 := Tryd.underlying9
  a9 := Tryd.isAgg9
  z9 := Tryd.sizeOf9
  v9 := Tryd.zeroValue9
  t46 := Tryd.underlying126
  a46 := Tryd.isAgg126
  z46 := Tryd.sizeOf126
  v46 := Tryd.zeroValue126
  t51 := Tryd.underlying130
  a51 := Tryd.isAgg130
  z51 := Tryd.sizeOf130
  v51 := Tryd.zeroValue130
  t146 := Tryd.underlying131
  a146 := Tryd.isAgg131
  z146 := Tryd.sizeOf131
  v146 := Tryd.zeroValue131
  g1 := by kernel_rfl }
open Go.RowKit Go.Lib in
theorem Tryd.stringslite_Cut (s sep : ByteArray) (m : Int) (w : World) (hs : s.size < 4294967281) (hm : w.cell? ⟨0, 0, none⟩ = some (.int .i64 m)) :
    Calls Tryd.prog 67 #[.string s, .string sep] w fun e w' => e = .returned (.tuple #[.string ⟨(Lib.cut s.data.toList sep.data.toList).1.toArray⟩, .string ⟨(Lib.cut s.data.toList sep.data.toList).2.1.toArray⟩, .bool (Lib.cut s.data.toList sep.data.toList).2.2]) ∧ ∃ n, w' = w.drewN n := Any.stringslite_Cut Tryd.lays220 s sep m w hs hm
def Tryd.lays145_ren : Go.Shelf.Ren := ⟨fun | 145 => 51 | 220 => 67 | 219 => 75 | 217 => 88 | 225 => 89 | 224 => 90 | 267 => 91 | 266 => 99 | 314 => 100 | n => n, fun | 9 => 9 | 4 => 4 | 59 => 95 | 3 => 3 | 5 => 5 | 46 => 126 | 146 => 131 | 51 => 130 | n => n, fun | 1 => 0 | n => n⟩
theorem Tryd.lays145 : Go.Proofs.Lays.n145 Tryd.prog Tryd.lays145_ren := {
  mixed := by kernel_rfl
  f145 := Tryd.func51.trans (congrArg some (by kernel_rfl))
  f217 := Tryd.func88.trans (congrArg some (by kernel_rfl))
  f219 := Tryd.func75.trans (congrArg some (by kernel_rfl))
  f220 := Tryd.func67.trans (congrArg some (by kernel_rfl))
  f224 := Tryd.func90.trans (congrArg some (by kernel_rfl))
  f225 := Tryd.func89.trans (congrArg some (by kernel_rfl))
  f266 := Tryd.func99.trans (congrArg some (by kernel_rfl))
  f267 := Tryd.func91.trans (congrArg some (by kernel_rfl))
  f314 := Tryd.func100.trans (congrArg some (by kernel_rfl))
  t3 := Tryd.underlying3
  a3 := Tryd.isAgg3
  z3 := Tryd.sizeOf3
  v3 := Tryd.zeroValue3
  t4 := Tryd.underlying4
  a4 := Tryd.isAgg4
  z4 := Tryd.sizeOf4
  v4 := Tryd.zeroValue4
  t5 := Tryd.underlying5
  a5 := Tryd.isAgg5
  z5 := Tryd.sizeOf5
  v5 := Tryd.zeroValue5
  t9 := Tryd.underlying9
  a9 := Tryd.isAgg9
  z9 := Tryd.sizeOf9
  v9 := Tryd.zeroValue9
  t46 := Tryd.underlying126
  a46 := Tryd.isAgg126
  z46 := Tryd.sizeOf126
  v46 := Tryd.zeroValue126
  t51 := Tryd.underlying130
  a51 := Tryd.isAgg130
  z51 := Tryd.sizeOf130
  v51 := Tryd.zeroValue130
  t59 := Tryd.underlying95
  a59 := Tryd.isAgg95
  z59 := Tryd.sizeOf95
  v59 := Tryd.zeroValue95
  t146 := Tryd.underlying131
  a146 := Tryd.isAgg131
  z146 := Tryd.sizeOf131
  v146 := Tryd.zeroValue131
  g1 := by kernel_rfl }
open Go.RowKit Go.Lib in
theorem Tryd.strings_Cut (s sep : ByteArray) (m : Int) (w : World) (hs : s.size < 4294967281) (hm : w.cell? ⟨0, 0, none⟩ = some (.int .i64 m)) :
    Calls Tryd.prog 51 #[.string s, .string sep] w fun e w' => e = .returned (.tuple #[.string ⟨(Lib.cut s.data.toList sep.data.toList).1.toArray⟩, .string ⟨(Lib.cut s.data.toList sep.data.toList).2.1.toArray⟩, .bool (Lib.cut s.data.toList sep.data.toList).2.2]) ∧ ∃ n, w' = w.drewN n := Any.strings_Cut Tryd.lays145 s sep m w hs hm
def Tryd.lays138_ren : Go.Shelf.Ren := ⟨fun | 138 => 87 | 195 => 97 | 218 => 98 | 143 => 74 | 219 => 75 | 217 => 88 | 225 => 89 | 224 => 90 | 267 => 91 | 266 => 99 | 314 => 100 | n => n, fun | 9 => 9 | 3 => 3 | 4 => 4 | 5 => 5 | 0 => 0 | 46 => 126 | 146 => 131 | 51 => 130 | n => n, fun | 1 => 0 | n => n⟩
theorem Tryd.lays138 : Go.Proofs.Lays.n138 Tryd.prog Tryd.lays138_ren := {
  mixed := by kernel_rfl
  f138 := Tryd.func87.trans (congrArg some (by kernel_rfl))
  f143 := Tryd.func74.trans (congrArg some (by kernel_rfl))
  f195 := Tryd.func97.trans (congrArg some (by kernel_rfl))
  f217 := Tryd.func88.trans (congrArg some (by kernel_rfl))
  f218 := Tryd.func98.trans (congrArg some (by kernel_rfl))
  f219 := Tryd.func75.trans (congrArg some (by kernel_rfl))
  f224 := Tryd.func90.trans (congrArg some (by kernel_rfl))
  f225 := Tryd.func89.trans (congrArg some (by kernel_rfl))
  f266 := Tryd.func99.trans (congrArg some (by kernel_rfl))
  f267 := Tryd.func91.trans (congrArg some (by kernel_rfl))
  f314 := Tryd.func100.trans (congrArg some (by kernel_rfl))
  t0 := Tryd.underlying0
  a0 := Tryd.isAgg0
  z0 := Tryd.sizeOf0
  v0 := Tryd.zeroValue0
  t3 := Tryd.underlying3
  a3 := Tryd.isAgg3
  z3 := Tryd.sizeOf3
  v3 := Tryd.zeroValue3
  t4 := Tryd.underlying4
  a4 := Tryd.isAgg4
  z4 := Tryd.sizeOf4
  v4 := Tryd.zeroValue4
  t5 := Tryd.underlying5
  a5 := Tryd.isAgg5
  z5 := Tryd.sizeOf5
  v5 := Tryd.zeroValue5
  t9 := Tryd.underlying9
  a9 := Tryd.isAgg9
  z9 := Tryd.sizeOf9
  v9 := Tryd.zeroValue9
  t46 := Tryd.underlying126
  a46 := Tryd.isAgg126
  z46 := Tryd.sizeOf126
  v46 := Tryd.zeroValue126
  t51 := Tryd.underlying130
  a51 := Tryd.isAgg130
  z51 := Tryd.sizeOf130
  v51 := Tryd.zeroValue130
  t146 := Tryd.underlying131
  a146 := Tryd.isAgg131
  z146 := Tryd.sizeOf131
  v146 := Tryd.zeroValue131
  g1 := by kernel_rfl }
open Go.RowKit Go.Lib in
theorem Tryd.strings_Count_one (s : ByteArray) (c : UInt8) (w : World) :
    Calls Tryd.prog 87 #[.string s, .string ⟨#[c]⟩] w fun e w' => e = .returned (.int .i64 (Lib.countByte s.data.toList c)) ∧ w' = w := Any.strings_Count_one Tryd.lays138 s c w
open Go.RowKit Go.Lib in
theorem Tryd.strings_Count (s sub : ByteArray) (m : Int) (w : World) (hs : s.size < 4294967281) (hm : w.cell? ⟨0, 0, none⟩ = some (.int .i64 m)) (h2 : 2 ≤ sub.size) :
    Calls Tryd.prog 87 #[.string s, .string sub] w fun e w' => e = .returned (.int .i64 (Lib.countB s sub)) ∧ w' = w := Any.strings_Count Tryd.lays138 s sub m w hs hm h2
def Tryd.laysM219_ren : Go.Shelf.Ren := ⟨fun | 219 => 75 | 217 => 88 | 225 => 89 | 224 => 90 | 267 => 91 | 266 => 99 | 314 => 100 | n => n, fun | 9 => 9 | 3 => 3 | 4 => 4 | 5 => 5 | 46 => 126 | 146 => 131 | 51 => 130 | n => n, fun | 1 => 0 | n => n⟩
theorem Tryd.laysM219 : Go.Proofs.LaysM.n219 Tryd.prog Tryd.laysM219_ren := {
  mixed := by kernel_rfl
  f217 := Tryd.func88.trans (congrArg some (by kernel_rfl))
  f219 := Tryd.func75.trans (congrArg some (by kernel_rfl))
  f224 := Tryd.func90.trans (congrArg some (by kernel_rfl))
  f225 := Tryd.func89.trans (congrArg some (by kernel_rfl))
  f266 := Tryd.func99.trans (congrArg some (by kernel_rfl))
  f267 := Tryd.func91.trans (congrArg some (by kernel_rfl))
  f314 := Tryd.func100.trans (congrArg some (by kernel_rfl))
  t3 := Tryd.underlying3
  a3 := Tryd.isAgg3
  z3 := Tryd.sizeOf3
  v3 := Tryd.zeroValue3
  t4 := Tryd.underlying4
  a4 := Tryd.isAgg4
  z4 := Tryd.sizeOf4
  v4 := Tryd.zeroValue4
  t5 := Tryd.underlying5
  a5 := Tryd.isAgg5
  z5 := Tryd.sizeOf5
  v5 := Tryd.zeroValue5
  t9 := Tryd.underlying9
  a9 := Tryd.isAgg9
  z9 := Tryd.sizeOf9
  v9 := Tryd.zeroValue9
  t46 := Tryd.underlying126
  a46 := Tryd.isAgg126
  z46 := Tryd.sizeOf126
  v46 := Tryd.zeroValue126
  t51 := Tryd.underlying130
  a51 := Tryd.isAgg130
  z51 := Tryd.sizeOf130
  v51 := Tryd.zeroValue130
  t146 := Tryd.underlying131
  a146 := Tryd.isAgg131
  z146 := Tryd.sizeOf131
  v146 := Tryd.zeroValue131
  g1 := by kernel_rfl
  i3 := by kernel_rfl
  i4 := by kernel_rfl
  i5 := by kernel_rfl
  i9 := by kernel_rfl
  i46 := by kernel_rfl
  i51 := by kernel_rfl
  i146 := by kernel_rfl
  m1 := by kernel_rfl
  s1_3 := fun w h => Go.Proofs.cell_of_shapedOpen_int (zero := #[.int .i64 0]) (t := 3) h (of_decide_eq_true (by kernel_rfl)) (by kernel_rfl) rfl (by kernel_rfl) (by kernel_rfl) Tryd.underlying3 }
open Go.RowKit Go.Lib in
theorem Tryd.stringslite_Index_shaped (s sub : ByteArray) (w : World) (h : w.ShapedOpen Tryd.prog) (hs : s.size < 4294967281) :
    Calls Tryd.prog 75 #[.string s, .string sub] w fun e w' => e = .returned (.int .i64 (Lib.index s.data.toList sub.data.toList)) ∧ w' = w := Any.stringslite_Index_shaped Tryd.laysM219 s sub w h hs
def Tryd.laysM143_ren : Go.Shelf.Ren := ⟨fun | 143 => 74 | 219 => 75 | 217 => 88 | 225 => 89 | 224 => 90 | 267 => 91 | 266 => 99 | 314 => 100 | n => n, fun | 9 => 9 | 3 => 3 | 4 => 4 | 5 => 5 | 46 => 126 | 146 => 131 | 51 => 130 | n => n, fun | 1 => 0 | n => n⟩
theorem Tryd.laysM143 : Go.Proofs.LaysM.n143 Tryd.prog Tryd.laysM143_ren := {
  mixed := by kernel_rfl
  f143 := Tryd.func74.trans (congrArg some (by kernel_rfl))
  f217 := Tryd.func88.trans (congrArg some (by kernel_rfl))
  f219 := Tryd.func75.trans (congrArg some (by kernel_rfl))
  f224 := Tryd.func90.trans (congrArg some (by kernel_rfl))
  f225 := Tryd.func89.trans (congrArg some (by kernel_rfl))
  f266 := Tryd.func99.trans (congrArg some (by kernel_rfl))
  f267 := Tryd.func91.trans (congrArg some (by kernel_rfl))
  f314 := Tryd.func100.trans (congrArg some (by kernel_rfl))
  t3 := Tryd.underlying3
  a3 := Tryd.isAgg3
  z3 := Tryd.sizeOf3
  v3 := Tryd.zeroValue3
  t4 := Tryd.underlying4
  a4 := Tryd.isAgg4
  z4 := Tryd.sizeOf4
  v4 := Tryd.zeroValue4
  t5 := Tryd.underlying5
  a5 := Tryd.isAgg5
  z5 := Tryd.sizeOf5
  v5 := Tryd.zeroValue5
  t9 := Tryd.underlying9
  a9 := Tryd.isAgg9
  z9 := Tryd.sizeOf9
  v9 := Tryd.zeroValue9
  t46 := Tryd.underlying126
  a46 := Tryd.isAgg126
  z46 := Tryd.sizeOf126
  v46 := Tryd.zeroValue126
  t51 := Tryd.underlying130
  a51 := Tryd.isAgg130
  z51 := Tryd.sizeOf130
  v51 := Tryd.zeroValue130
  t146 := Tryd.underlying131
  a146 := Tryd.isAgg131
  z146 := Tryd.sizeOf131
  v146 := Tryd.zeroValue131
  g1 := by kernel_rfl
  i3 := by kernel_rfl
  i4 := by kernel_rfl
  i5 := by kernel_rfl
  i9 := by kernel_rfl
  i46 := by kernel_rfl
  i51 := by kernel_rfl
  i146 := by kernel_rfl
  m1 := by kernel_rfl
  s1_3 := fun w h => Go.Proofs.cell_of_shapedOpen_int (zero := #[.int .i64 0]) (t := 3) h (of_decide_eq_true (by kernel_rfl)) (by kernel_rfl) rfl (by kernel_rfl) (by kernel_rfl) Tryd.underlying3 }
open Go.RowKit Go.Lib in
theorem Tryd.strings_Index_shaped (s sub : ByteArray) (w : World) (h : w.ShapedOpen Tryd.prog) (hs : s.size < 4294967281) :
    Calls Tryd.prog 74 #[.string s, .string sub] w fun e w' => e = .returned (.int .i64 (Lib.index s.data.toList sub.data.toList)) ∧ w' = w := Any.strings_Index_shaped Tryd.laysM143 s sub w h hs
def Tryd.laysM144_ren : Go.Shelf.Ren := ⟨fun | 144 => 65 | 143 => 74 | 219 => 75 | 217 => 88 | 225 => 89 | 224 => 90 | 267 => 91 | 266 => 99 | 314 => 100 | n => n, fun | 9 => 9 | 4 => 4 | 3 => 3 | 5 => 5 | 46 => 126 | 146 => 131 | 51 => 130 | n => n, fun | 1 => 0 | n => n⟩
theorem Tryd.laysM144 : Go.Proofs.LaysM.n144 Tryd.prog Tryd.laysM144_ren := {
  mixed := by kernel_rfl
  f143 := Tryd.func74.trans (congrArg some (by kernel_rfl))
  f144 := Tryd.func65.trans (congrArg some (by kernel_rfl))
  f217 := Tryd.func88.trans (congrArg some (by kernel_rfl))
  f219 := Tryd.func75.trans (congrArg some (by kernel_rfl))
  f224 := Tryd.func90.trans (congrArg some (by kernel_rfl))
  f225 := Tryd.func89.trans (congrArg some (by kernel_rfl))
  f266 := Tryd.func99.trans (congrArg some (by kernel_rfl))
  f267 := Tryd.func91.trans (congrArg some (by kernel_rfl))
  f314 := Tryd.func100.trans (congrArg some (by kernel_rfl))
  t3 := Tryd.underlying3
  a3 := Tryd.isAgg3
  z3 := Tryd.sizeOf3
  v3 := Tryd.zeroValue3
  t4 := Tryd.underlying4
  a4 := Tryd.isAgg4
  z4 := Tryd.sizeOf4
  v4 := Tryd.zeroValue4
  t5 := Tryd.underlying5
  a5 := Tryd.isAgg5
  z5 := Tryd.sizeOf5
  v5 := Tryd.zeroValue5
  t9 := Tryd.underlying9
  a9 := Tryd.isAgg9
  z9 := Tryd.sizeOf9
  v9 := Tryd.zeroValue9
  t46 := Tryd.underlying126
  a46 := Tryd.isAgg126
  z46 := Tryd.sizeOf126
  v46 := Tryd.zeroValue126
  t51 := Tryd.underlying130
  a51 := Tryd.isAgg130
  z51 := Tryd.sizeOf130
  v51 := Tryd.zeroValue130
  t146 := Tryd.underlying131
  a146 := Tryd.isAgg131
  z146 := Tryd.sizeOf131
  v146 := Tryd.zeroValue131
  g1 := by kernel_rfl
  i3 := by kernel_rfl
  i4 := by kernel_rfl
  i5 := by kernel_rfl
  i9 := by kernel_rfl
  i46 := by kernel_rfl
  i51 := by kernel_rfl
  i146 := by kernel_rfl
  m1 := by kernel_rfl
  s1_3 := fun w h => Go.Proofs.cell_of_shapedOpen_int (zero := #[.int .i64 0]) (t := 3) h (of_decide_eq_true (by kernel_rfl)) (by kernel_rfl) rfl (by kernel_rfl) (by kernel_rfl) Tryd.underlying3 }
open Go.RowKit Go.Lib in
theorem Tryd.strings_Contains_shaped (s sub : ByteArray) (w : World) (h : w.ShapedOpen Tryd.prog) (hs : s.size < 4294967281) :
    Calls Tryd.prog 65 #[.string s, .string sub] w fun e w' => e = .returned (.bool (Lib.contains s.data.toList sub.data.toList)) ∧ w' = w := Any.strings_Contains_shaped Tryd.laysM144 s sub w h hs
def Tryd.laysM220_ren : Go.Shelf.Ren := ⟨fun | 220 => 67 | 219 => 75 | 217 => 88 | 225 => 89 | 224 => 90 | 267 => 91 | 266 => 99 | 314 => 100 | n => n, fun | 9 => 9 | 4 => 4 | 3 => 3 | 5 => 5 | 46 => 126 | 146 => 131 | 51 => 130 | n => n, fun | 1 => 0 | n => n⟩
theorem Tryd.laysM220 : Go.Proofs.LaysM.n220 Tryd.prog Tryd.laysM220_ren := {
  mixed := by kernel_rfl
  f217 := Tryd.func88.trans (congrArg some (by kernel_rfl))
  f219 := Tryd.func75.trans (congrArg some (by kernel_rfl))
  f220 := Tryd.func67.trans (congrArg some (by kernel_rfl))
  f224 := Tryd.func90.trans (congrArg some (by kernel_rfl))
  f225 := Tryd.func89.trans (congrArg some (by kernel_rfl))
  f266 := Tryd.func99.trans (congrArg some (by kernel_rfl))
  f267 := Tryd.func91.trans (congrArg some (by kernel_rfl))
  f314 := Tryd.func100.trans (congrArg some (by kernel_rfl))
  t3 := Tryd.underlying3
  a3 := Tryd.isAgg3
  z3 := Tryd.sizeOf3
  v3 := Tryd.zeroValue3
  t4 := Tryd.underlying4
  a4 := Tryd.isAgg4
  z4 := Tryd.sizeOf4
  v4 := Tryd.zeroValue4
  t5 := Tryd.underlying5
  a5 := Tryd.isAgg5
  z5 := Tryd.sizeOf5
  v5 := Tryd.zeroValue5
  t9 := Tryd.underlying9
  a9 := Tryd.isAgg9
  z9 := Tryd.sizeOf9
  v9 := Tryd.zeroValue9
  t46 := Tryd.underlying126
  a46 := Tryd.isAgg126
  z46 := Tryd.sizeOf126
  v46 := Tryd.zeroValue126
  t51 := Tryd.underlying130
  a51 := Tryd.isAgg130
  z51 := Tryd.sizeOf130
  v51 := Tryd.zeroValue130
  t146 := Tryd.underlying131
  a146 := Tryd.isAgg131
  z146 := Tryd.sizeOf131
  v146 := Tryd.zeroValue131
  g1 := by kernel_rfl
  i3 := by kernel_rfl
  i4 := by kernel_rfl
  i5 := by kernel_rfl
  i9 := by kernel_rfl
  i46 := by kernel_rfl
  i51 := by kernel_rfl
  i146 := by kernel_rfl
  m1 := by kernel_rfl
  s1_3 := fun w h => Go.Proofs.cell_of_shapedOpen_int (zero := #[.int .i64 0]) (t := 3) h (of_decide_eq_true (by kernel_rfl)) (by kernel_rfl) rfl (by kernel_rfl) (by kernel_rfl) Tryd.underlying3 }
open Go.RowKit Go.Lib in
theorem Tryd.stringslite_Cut_shaped (s sep : ByteArray) (w : World) (h : w.ShapedOpen Tryd.prog) (hs : s.size < 4294967281) :
    Calls Tryd.prog 67 #[.string s, .string sep] w fun e w' => e = .returned (.tuple #[.string ⟨(Lib.cut s.data.toList sep.data.toList).1.toArray⟩, .string ⟨(Lib.cut s.data.toList sep.data.toList).2.1.toArray⟩, .bool (Lib.cut s.data.toList sep.data.toList).2.2]) ∧ ∃ n, w' = w.drewN n := Any.stringslite_Cut_shaped Tryd.laysM220 s sep w h hs
def Tryd.laysM145_ren : Go.Shelf.Ren := ⟨fun | 145 => 51 | 220 => 67 | 219 => 75 | 217 => 88 | 225 => 89 | 224 => 90 | 267 => 91 | 266 => 99 | 314 => 100 | n => n, fun | 9 => 9 | 4 => 4 | 59 => 95 | 3 => 3 | 5 => 5 | 46 => 126 | 146 => 131 | 51 => 130 | n => n, fun | 1 => 0 | n => n⟩
theorem Tryd.laysM145 : Go.Proofs.LaysM.n145 Tryd.prog Tryd.laysM145_ren := {
  mixed := by kernel_rfl
  f145 := Tryd.func51.trans (congrArg some (by kernel_rfl))
  f217 := Tryd.func88.trans (congrArg some (by kernel_rfl))
  f219 := Tryd.func75.trans (congrArg some (by kernel_rfl))
  f220 := Tryd.func67.trans (congrArg some (by kernel_rfl))
  f224 := Tryd.func90.trans (congrArg some (by kernel_rfl))
  f225 := Tryd.func89.trans (congrArg some (by kernel_rfl))
  f266 := Tryd.func99.trans (congrArg some (by kernel_rfl))
  f267 := Tryd.func91.trans (congrArg some (by kernel_rfl))
  f314 := Tryd.func100.trans (congrArg some (by kernel_rfl))
  t3 := Tryd.underlying3
  a3 := Tryd.isAgg3
  z3 := Tryd.sizeOf3
  v3 := Tryd.zeroValue3
  t4 := Tryd.underlying4
  a4 := Tryd.isAgg4
  z4 := Tryd.sizeOf4
  v4 := Tryd.zeroValue4
  t5 := Tryd.underlying5
  a5 := Tryd.isAgg5
  z5 := Tryd.sizeOf5
  v5 := Tryd.zeroValue5
  t9 := Tryd.underlying9
  a9 := Tryd.isAgg9
  z9 := Tryd.sizeOf9
  v9 := Tryd.zeroValue9
  t46 := Tryd.underlying126
  a46 := Tryd.isAgg126
  z46 := Tryd.sizeOf126
  v46 := Tryd.zeroValue126
  t51 := Tryd.underlying130
  a51 := Tryd.isAgg130
  z51 := Tryd.sizeOf130
  v51 := Tryd.zeroValue130
  t59 := Tryd.underlying95
  a59 := Tryd.isAgg95
  z59 := Tryd.sizeOf95
  v59 := Tryd.zeroValue95
  t146 := Tryd.underlying131
  a146 := Tryd.isAgg131
  z146 := Tryd.sizeOf131
  v146 := Tryd.zeroValue131
  g1 := by kernel_rfl
  i3 := by kernel_rfl
  i4 := by kernel_rfl
  i5 := by kernel_rfl
  i9 := by kernel_rfl
  i46 := by kernel_rfl
  i51 := by kernel_rfl
  i59 := by kernel_rfl
  i146 := by kernel_rfl
  m1 := by kernel_rfl
  s1_3 := fun w h => Go.Proofs.cell_of_shapedOpen_int (zero := #[.int .i64 0]) (t := 3) h (of_decide_eq_true (by kernel_rfl)) (by kernel_rfl) rfl (by kernel_rfl) (by kernel_rfl) Tryd.underlying3 }
open Go.RowKit Go.Lib in
theorem Tryd.strings_Cut_shaped (s sep : ByteArray) (w : World) (h : w.ShapedOpen Tryd.prog) (hs : s.size < 4294967281) :
    Calls Tryd.prog 51 #[.string s, .string sep] w fun e w' => e = .returned (.tuple #[.string ⟨(Lib.cut s.data.toList sep.data.toList).1.toArray⟩, .string ⟨(Lib.cut s.data.toList sep.data.toList).2.1.toArray⟩, .bool (Lib.cut s.data.toList sep.data.toList).2.2]) ∧ ∃ n, w' = w.drewN n := Any.strings_Cut_shaped Tryd.laysM145 s sep w h hs
def Tryd.laysM138_ren : Go.Shelf.Ren := ⟨fun | 138 => 87 | 195 => 97 | 218 => 98 | 143 => 74 | 219 => 75 | 217 => 88 | 225 => 89 | 224 => 90 | 267 => 91 | 266 => 99 | 314 => 100 | n => n, fun | 9 => 9 | 3 => 3 | 4 => 4 | 5 => 5 | 0 => 0 | 46 => 126 | 146 => 131 | 51 => 130 | n => n, fun | 1 => 0 | n => n⟩
theorem Tryd.laysM138 : Go.Proofs.LaysM.n138 Tryd.prog Tryd.laysM138_ren := {
  mixed := by kernel_rfl
  f138 := Tryd.func87.trans (congrArg some (by kernel_rfl))
  f143 := Tryd.func74.trans (congrArg some (by kernel_rfl))
  f195 := Tryd.func97.trans (congrArg some (by kernel_rfl))
  f217 := Tryd.func88.trans (congrArg some (by kernel_rfl))
  f218 := Tryd.func98.trans (congrArg some (by kernel_rfl))
  f219 := Tryd.func75.trans (congrArg some (by kernel_rfl))
  f224 := Tryd.func90.trans (congrArg some (by kernel_rfl))
  f225 := Tryd.func89.trans (congrArg some (by kernel_rfl))
  f266 := Tryd.func99.trans (congrArg some (by kernel_rfl))
  f267 := Tryd.func91.trans (congrArg some (by kernel_rfl))
  f314 := Tryd.func100.trans (congrArg some (by kernel_rfl))
  t0 := Tryd.underlying0
  a0 := Tryd.isAgg0
  z0 := Tryd.sizeOf0
  v0 := Tryd.zeroValue0
  t3 := Tryd.underlying3
  a3 := Tryd.isAgg3
  z3 := Tryd.sizeOf3
  v3 := Tryd.zeroValue3
  t4 := Tryd.underlying4
  a4 := Tryd.isAgg4
  z4 := Tryd.sizeOf4
  v4 := Tryd.zeroValue4
  t5 := Tryd.underlying5
  a5 := Tryd.isAgg5
  z5 := Tryd.sizeOf5
  v5 := Tryd.zeroValue5
  t9 := Tryd.underlying9
  a9 := Tryd.isAgg9
  z9 := Tryd.sizeOf9
  v9 := Tryd.zeroValue9
  t46 := Tryd.underlying126
  a46 := Tryd.isAgg126
  z46 := Tryd.sizeOf126
  v46 := Tryd.zeroValue126
  t51 := Tryd.underlying130
  a51 := Tryd.isAgg130
  z51 := Tryd.sizeOf130
  v51 := Tryd.zeroValue130
  t146 := Tryd.underlying131
  a146 := Tryd.isAgg131
  z146 := Tryd.sizeOf131
  v146 := Tryd.zeroValue131
  g1 := by kernel_rfl
  i0 := by kernel_rfl
  i3 := by kernel_rfl
  i4 := by kernel_rfl
  i5 := by kernel_rfl
  i9 := by kernel_rfl
  i46 := by kernel_rfl
  i51 := by kernel_rfl
  i146 := by kernel_rfl
  m1 := by kernel_rfl
  s1_3 := fun w h => Go.Proofs.cell_of_shapedOpen_int (zero := #[.int .i64 0]) (t := 3) h (of_decide_eq_true (by kernel_rfl)) (by kernel_rfl) rfl (by kernel_rfl) (by kernel_rfl) Tryd.underlying3 }
open Go.RowKit Go.Lib in
theorem Tryd.strings_Count_shaped (s sub : ByteArray) (w : World) (h : w.ShapedOpen Tryd.prog) (hs : s.size < 4294967281) (h2 : 2 ≤ sub.size) :
    Calls Tryd.prog 87 #[.string s, .string sub] w fun e w' => e = .returned (.int .i64 (Lib.countB s sub)) ∧ w' = w := Any.strings_Count_shaped Tryd.laysM138 s sub w h hs h2
def Tryd.lays206_ren : Go.Shelf.Ren := ⟨fun | 206 => 73 | n => n, fun | 9 => 9 | 4 => 4 | 3 => 3 | n => n, fun | n => n⟩
theorem Tryd.lays206 : Go.Proofs.Lays.n206 Tryd.prog Tryd.lays206_ren := {
  mixed := by kernel_rfl
  f206 := Tryd.func73.trans (congrArg some (by kernel_rfl))
  t3 := Tryd.underlying3
  a3 := Tryd.isAgg3
  z3 := Tryd.sizeOf3
  v3 := Tryd.zeroValue3
  t4 := Tryd.underlying4
  a4 := Tryd.isAgg4
  z4 := Tryd.sizeOf4
  v4 := Tryd.zeroValue4
  t9 := Tryd.underlying9
  a9 := Tryd.isAgg9
  z9 := Tryd.sizeOf9
  v9 := Tryd.zeroValue9 }
open Go.RowKit Go.Lib in
theorem Tryd.stringslite_HasPrefix (s p : ByteArray) (w : World) :
    Calls Tryd.prog 73 #[.string s, .string p] w fun e w' => e = .returned (.bool (Lib.hasPrefix s.data.toList p.data.toList)) ∧ w' = w := Any.stringslite_HasPrefix Tryd.lays206 s p w
def Tryd.lays99_ren : Go.Shelf.Ren := ⟨fun | 99 => 64 | 206 => 73 | n => n, fun | 9 => 9 | 4 => 4 | 3 => 3 | n => n, fun | n => n⟩
theorem Tryd.lays99 : Go.Proofs.Lays.n99 Tryd.prog Tryd.lays99_ren := {
  mixed := by kernel_rfl
  f99 := Tryd.func64.trans (congrArg some (by kernel_rfl))
  f206 := Tryd.func73.trans (congrArg some (by kernel_rfl))
  t3 := Tryd.underlying3
  a3 := Tryd.isAgg3
  z3 := Tryd.sizeOf3
  v3 := Tryd.zeroValue3
  t4 := Tryd.underlying4
  a4 := Tryd.isAgg4
  z4 := Tryd.sizeOf4
  v4 := Tryd.zeroValue4
  t9 := Tryd.underlying9
  a9 := Tryd.isAgg9
  z9 := Tryd.sizeOf9
  v9 := Tryd.zeroValue9 }
open Go.RowKit Go.Lib in
theorem Tryd.strings_HasPrefix (s p : ByteArray) (w : World) :
    Calls Tryd.prog 64 #[.string s, .string p] w fun e w' => e = .returned (.bool (Lib.hasPrefix s.data.toList p.data.toList)) ∧ w' = w := Any.strings_HasPrefix Tryd.lays99 s p w
def Tryd.lays208_ren : Go.Shelf.Ren := ⟨fun | 208 => 96 | 206 => 73 | n => n, fun | 9 => 9 | 4 => 4 | 3 => 3 | n => n, fun | n => n⟩
theorem Tryd.lays208 : Go.Proofs.Lays.n208 Tryd.prog Tryd.lays208_ren := {
  mixed := by kernel_rfl
  f206 := Tryd.func73.trans (congrArg some (by kernel_rfl))
  f208 := Tryd.func96.trans (congrArg some (by kernel_rfl))
  t3 := Tryd.underlying3
  a3 := Tryd.isAgg3
  z3 := Tryd.sizeOf3
  v3 := Tryd.zeroValue3
  t4 := Tryd.underlying4
  a4 := Tryd.isAgg4
  z4 := Tryd.sizeOf4
  v4 := Tryd.zeroValue4
  t9 := Tryd.underlying9
  a9 := Tryd.isAgg9
  z9 := Tryd.sizeOf9
  v9 := Tryd.zeroValue9 }
open Go.RowKit Go.Lib in
theorem Tryd.stringslite_TrimPrefix (s p : ByteArray) (w : World) :
    Calls Tryd.prog 96 #[.string s, .string p] w fun e w' => e = .returned (.string ⟨(Lib.trimPrefix s.data.toList p.data.toList).toArray⟩) ∧ w' = w := Any.stringslite_TrimPrefix Tryd.lays208 s p w
def Tryd.lays101_ren : Go.Shelf.Ren := ⟨fun | 101 => 84 | 208 => 96 | 206 => 73 | n => n, fun | 9 => 9 | 4 => 4 | 3 => 3 | n => n, fun | n => n⟩
theorem Tryd.lays101 : Go.Proofs.Lays.n101 Tryd.prog Tryd.lays101_ren := {
  mixed := by kernel_rfl
  f101 := Tryd.func84.trans (congrArg some (by kernel_rfl))
  f206 := Tryd.func73.trans (congrArg some (by kernel_rfl))
  f208 := Tryd.func96.trans (congrArg some (by kernel_rfl))
  t3 := Tryd.underlying3
  a3 := Tryd.isAgg3
  z3 := Tryd.sizeOf3
  v3 := Tryd.zeroValue3
  t4 := Tryd.underlying4
  a4 := Tryd.isAgg4
  z4 := Tryd.sizeOf4
  v4 := Tryd.zeroValue4
  t9 := Tryd.underlying9
  a9 := Tryd.isAgg9
  z9 := Tryd.sizeOf9
  v9 := Tryd.zeroValue9 }
open Go.RowKit Go.Lib in
theorem Tryd.strings_TrimPrefix (s p : ByteArray) (w : World) :
    Calls Tryd.prog 84 #[.string s, .string p] w fun e w' => e = .returned (.string ⟨(Lib.trimPrefix s.data.toList p.data.toList).toArray⟩) ∧ w' = w := Any.strings_TrimPrefix Tryd.lays101 s p w
open Go.RowKit Go.Lib in
theorem Tryd.strings_Count_any (s sep : ByteArray) (m : Int) (w : World) (hs : s.size < 4294967281) (hm : w.cell? ⟨0, 0, none⟩ = some (.int .i64 m)) (h1 : 1 ≤ sep.size) :
    Calls Tryd.prog 87 #[.string s, .string sep] w fun e w' => e = .returned (.int .i64 (Lib.countB s sep)) ∧ w' = w := Any.strings_Count_any Tryd.lays138 s sep m w hs hm h1
def Tryd.lays221_ren : Go.Shelf.Ren := ⟨fun | 221 => 72 | 268 => 86 | 138 => 87 | 143 => 74 | 195 => 97 | 197 => 93 | 218 => 98 | 219 => 75 | 260 => 101 | 217 => 88 | 225 => 89 | 224 => 90 | 267 => 91 | 266 => 99 | 314 => 100 | n => n, fun | 9 => 9 | 3 => 3 | 31 => 76 | 4 => 4 | 0 => 0 | 105 => 127 | 21 => 21 | 5 => 5 | 46 => 126 | 119 => 134 | 139 => 137 | 138 => 136 | 146 => 131 | 51 => 130 | n => n, fun | 1 => 0 | 3 => 1 | 4 => 2 | n => n⟩
theorem Tryd.lays221 : Go.Proofs.Lays.n221 Tryd.prog Tryd.lays221_ren := {
  mixed := by kernel_rfl
  f138 := Tryd.func87.trans (congrArg some (by kernel_rfl))
  f143 := Tryd.func74.trans (congrArg some (by kernel_rfl))
  f195 := Tryd.func97.trans (congrArg some (by kernel_rfl))
  f197 := Tryd.func93.trans (congrArg some (by kernel_rfl))
  f217 := Tryd.func88.trans (congrArg some (by kernel_rfl))
  f218 := Tryd.func98.trans (congrArg some (by kernel_rfl))
  f219 := Tryd.func75.trans (congrArg some (by kernel_rfl))
  f221 := Tryd.func72.trans (congrArg some (by kernel_rfl))
  f224 := Tryd.func90.trans (congrArg some (by kernel_rfl))
  f225 := Tryd.func89.trans (congrArg some (by kernel_rfl))
  f260 := Tryd.func101.trans (congrArg some (by kernel_rfl))
  f266 := Tryd.func99.trans (congrArg some (by kernel_rfl))
  f267 := Tryd.func91.trans (congrArg some (by kernel_rfl))
  f268 := Tryd.func86.trans (congrArg some (by kernel_rfl))
  f314 := Tryd.func100.trans (congrArg some (by kernel_rfl))
  t0 := Tryd.underlying0
  a0 := Tryd.isAgg0
  z0 := Tryd.sizeOf0
  v0 := Tryd.zeroValue0
  t3 := Tryd.underlying3
  a3 := Tryd.isAgg3
  z3 := Tryd.sizeOf3
  v3 := Tryd.zeroValue3
  t4 := Tryd.underlying4
  a4 := Tryd.isAgg4
  z4 := Tryd.sizeOf4
  v4 := Tryd.zeroValue4
  t5 := Tryd.underlying5
  a5 := Tryd.isAgg5
  z5 := Tryd.sizeOf5
  v5 := Tryd.zeroValue5
  t9 := Tryd.underlying9
  a9 := Tryd.isAgg9
  z9 := Tryd.sizeOf9
  v9 := Tryd.zeroValue9
  t21 := Tryd.underlying21
  a21 := Tryd.isAgg21
  z21 := Tryd.sizeOf21
  v21 := Tryd.zeroValue21
  t31 := Tryd.underlying76
  a31 := Tryd.isAgg76
  z31 := Tryd.sizeOf76
  v31 := Tryd.zeroValue76
  t46 := Tryd.underlying126
  a46 := Tryd.isAgg126
  z46 := Tryd.sizeOf126
  v46 := Tryd.zeroValue126
  t51 := Tryd.underlying130
  a51 := Tryd.isAgg130
  z51 := Tryd.sizeOf130
  v51 := Tryd.zeroValue130
  t105 := Tryd.underlying127
  a105 := Tryd.isAgg127
  z105 := Tryd.sizeOf127
  v105 := Tryd.zeroValue127
  t119 := Tryd.underlying134
  a119 := Tryd.isAgg134
  z119 := Tryd.sizeOf134
  t138 := Tryd.underlying136
  a138 := Tryd.isAgg136
  z138 := Tryd.sizeOf136
  v138 := Tryd.zeroValue136
  t139 := Tryd.underlying137
  a139 := Tryd.isAgg137
  z139 := Tryd.sizeOf137
  v139 := Tryd.zeroValue137
  t146 := Tryd.underlying131
  a146 := Tryd.isAgg131
  z146 := Tryd.sizeOf131
  v146 := Tryd.zeroValue131
  g1 := by kernel_rfl
  g3 := by kernel_rfl
  g4 := by kernel_rfl }
open Go.RowKit Go.Lib in
theorem Tryd.strings_genSplit (s sep : ByteArray) (sv : Nat) (n : Int) (N : Nat) (m : Int) (w : World) (hs : s.size < 4294967281) (hm : w.cell? ⟨0, 0, none⟩ = some (.int .i64 m)) (h1 : 1 ≤ sep.size) (hsv : sv ≤ sep.size) (hn0 : n ≠ 0) (hn63 : n ≤ 9223372036854775807) (hN : (N : Int) = min (if n < 0 then (Lib.countB s sep : Int) + 1 else n) ((s.size : Int) + 1)) :
    Calls Tryd.prog 72 #[.string s, .string sep, .int .i64 sv, .int .i64 n] w fun e w' =>
      e = .returned (.slice (some ⟨w.heap.size, 0, none⟩) (Lib.splitB sep sv (N - 1) s).length N) ∧ w' = w.alloc (.cells (Lib.cellsOf (Lib.splitB sep sv (N - 1) s) N) 9) := Any.strings_genSplit Tryd.lays221 (by kernel_rfl) s sep sv n N m w hs hm h1 hsv hn0 hn63 hN
def Tryd.lays146_ren : Go.Shelf.Ren := ⟨fun | 146 => 61 | 221 => 72 | 268 => 86 | 138 => 87 | 143 => 74 | 195 => 97 | 197 => 93 | 218 => 98 | 219 => 75 | 260 => 101 | 217 => 88 | 225 => 89 | 224 => 90 | 267 => 91 | 266 => 99 | 314 => 100 | n => n, fun | 9 => 9 | 31 => 76 | 3 => 3 | 4 => 4 | 0 => 0 | 105 => 127 | 21 => 21 | 5 => 5 | 46 => 126 | 119 => 134 | 139 => 137 | 138 => 136 | 146 => 131 | 51 => 130 | n => n, fun | 1 => 0 | 3 => 1 | 4 => 2 | n => n⟩
theorem Tryd.lays146 : Go.Proofs.Lays.n146 Tryd.prog Tryd.lays146_ren := {
  mixed := by kernel_rfl
  f138 := Tryd.func87.trans (congrArg some (by kernel_rfl))
  f143 := Tryd.func74.trans (congrArg some (by kernel_rfl))
  f146 := Tryd.func61.trans (congrArg some (by kernel_rfl))
  f195 := Tryd.func97.trans (congrArg some (by kernel_rfl))
  f197 := Tryd.func93.trans (congrArg some (by kernel_rfl))
  f217 := Tryd.func88.trans (congrArg some (by kernel_rfl))
  f218 := Tryd.func98.trans (congrArg some (by kernel_rfl))
  f219 := Tryd.func75.trans (congrArg some (by kernel_rfl))
  f221 := Tryd.func72.trans (congrArg some (by kernel_rfl))
  f224 := Tryd.func90.trans (congrArg some (by kernel_rfl))
  f225 := Tryd.func89.trans (congrArg some (by kernel_rfl))
  f260 := Tryd.func101.trans (congrArg some (by kernel_rfl))
  f266 := Tryd.func99.trans (congrArg some (by kernel_rfl))
  f267 := Tryd.func91.trans (congrArg some (by kernel_rfl))
  f268 := Tryd.func86.trans (congrArg some (by kernel_rfl))
  f314 := Tryd.func100.trans (congrArg some (by kernel_rfl))
  t0 := Tryd.underlying0
  a0 := Tryd.isAgg0
  z0 := Tryd.sizeOf0
  v0 := Tryd.zeroValue0
  t3 := Tryd.underlying3
  a3 := Tryd.isAgg3
  z3 := Tryd.sizeOf3
  v3 := Tryd.zeroValue3
  t4 := Tryd.underlying4
  a4 := Tryd.isAgg4
  z4 := Tryd.sizeOf4
  v4 := Tryd.zeroValue4
  t5 := Tryd.underlying5
  a5 := Tryd.isAgg5
  z5 := Tryd.sizeOf5
  v5 := Tryd.zeroValue5
  t9 := Tryd.underlying9
  a9 := Tryd.isAgg9
  z9 := Tryd.sizeOf9
  v9 := Tryd.zeroValue9
  t21 := Tryd.underlying21
  a21 := Tryd.isAgg21
  z21 := Tryd.sizeOf21
  v21 := Tryd.zeroValue21
  t31 := Tryd.underlying76
  a31 := Tryd.isAgg76
  z31 := Tryd.sizeOf76
  v31 := Tryd.zeroValue76
  t46 := Tryd.underlying126
  a46 := Tryd.isAgg126
  z46 := Tryd.sizeOf126
  v46 := Tryd.zeroValue126
  t51 := Tryd.underlying130
  a51 := Tryd.isAgg130
  z51 := Tryd.sizeOf130
  v51 := Tryd.zeroValue130
  t105 := Tryd.underlying127
  a105 := Tryd.isAgg127
  z105 := Tryd.sizeOf127
  v105 := Tryd.zeroValue127
  t119 := Tryd.underlying134
  a119 := Tryd.isAgg134
  z119 := Tryd.sizeOf134
  t138 := Tryd.underlying136
  a138 := Tryd.isAgg136
  z138 := Tryd.sizeOf136
  v138 := Tryd.zeroValue136
  t139 := Tryd.underlying137
  a139 := Tryd.isAgg137
  z139 := Tryd.sizeOf137
  v139 := Tryd.zeroValue137
  t146 := Tryd.underlying131
  a146 := Tryd.isAgg131
  z146 := Tryd.sizeOf131
  v146 := Tryd.zeroValue131
  g1 := by kernel_rfl
  g3 := by kernel_rfl
  g4 := by kernel_rfl }
open Go.RowKit Go.Lib in
theorem Tryd.strings_Split (s sep : ByteArray) (m : Int) (w : World) (hs : s.size < 4294967281) (hm : w.cell? ⟨0, 0, none⟩ = some (.int .i64 m)) (h1 : 1 ≤ sep.size) :
    Calls Tryd.prog 61 #[.string s, .string sep] w fun e w' =>
      e = .returned (.slice (some ⟨w.heap.size, 0, none⟩) (Lib.countB s sep + 1) (Lib.countB s sep + 1)) ∧ w' = w.alloc (.cells ((Lib.splitB sep 0 (Lib.countB s sep) s).map Value.string).toArray 9) := Any.strings_Split Tryd.lays146 (by kernel_rfl) s sep m w hs hm h1
def Tryd.laysM146_ren : Go.Shelf.Ren := ⟨fun | 146 => 61 | 221 => 72 | 268 => 86 | 138 => 87 | 143 => 74 | 195 => 97 | 197 => 93 | 218 => 98 | 219 => 75 | 260 => 101 | 217 => 88 | 225 => 89 | 224 => 90 | 267 => 91 | 266 => 99 | 314 => 100 | n => n, fun | 9 => 9 | 31 => 76 | 3 => 3 | 4 => 4 | 0 => 0 | 105 => 127 | 21 => 21 | 5 => 5 | 46 => 126 | 119 => 134 | 139 => 137 | 138 => 136 | 146 => 131 | 51 => 130 | n => n, fun | 1 => 0 | 3 => 1 | 4 => 2 | n => n⟩
theorem Tryd.laysM146 : Go.Proofs.LaysM.n146 Tryd.prog Tryd.laysM146_ren := {
  mixed := by kernel_rfl
  f138 := Tryd.func87.trans (congrArg some (by kernel_rfl))
  f143 := Tryd.func74.trans (congrArg some (by kernel_rfl))
  f146 := Tryd.func61.trans (congrArg some (by kernel_rfl))
  f195 := Tryd.func97.trans (congrArg some (by kernel_rfl))
  f197 := Tryd.func93.trans (congrArg some (by kernel_rfl))
  f217 := Tryd.func88.trans (congrArg some (by kernel_rfl))
  f218 := Tryd.func98.trans (congrArg some (by kernel_rfl))
  f219 := Tryd.func75.trans (congrArg some (by kernel_rfl))
  f221 := Tryd.func72.trans (congrArg some (by kernel_rfl))
  f224 := Tryd.func90.trans (congrArg some (by kernel_rfl))
  f225 := Tryd.func89.trans (congrArg some (by kernel_rfl))
  f260 := Tryd.func101.trans (congrArg some (by kernel_rfl))
  f266 := Tryd.func99.trans (congrArg some (by kernel_rfl))
  f267 := Tryd.func91.trans (congrArg some (by kernel_rfl))
  f268 := Tryd.func86.trans (congrArg some (by kernel_rfl))
  f314 := Tryd.func100.trans (congrArg some (by kernel_rfl))
  t0 := Tryd.underlying0
  a0 := Tryd.isAgg0
  z0 := Tryd.sizeOf0
  v0 := Tryd.zeroValue0
  t3 := Tryd.underlying3
  a3 := Tryd.isAgg3
  z3 := Tryd.sizeOf3
  v3 := Tryd.zeroValue3
  t4 := Tryd.underlying4
  a4 := Tryd.isAgg4
  z4 := Tryd.sizeOf4
  v4 := Tryd.zeroValue4
  t5 := Tryd.underlying5
  a5 := Tryd.isAgg5
  z5 := Tryd.sizeOf5
  v5 := Tryd.zeroValue5
  t9 := Tryd.underlying9
  a9 := Tryd.isAgg9
  z9 := Tryd.sizeOf9
  v9 := Tryd.zeroValue9
  t21 := Tryd.underlying21
  a21 := Tryd.isAgg21
  z21 := Tryd.sizeOf21
  v21 := Tryd.zeroValue21
  t31 := Tryd.underlying76
  a31 := Tryd.isAgg76
  z31 := Tryd.sizeOf76
  v31 := Tryd.zeroValue76
  t46 := Tryd.underlying126
  a46 := Tryd.isAgg126
  z46 := Tryd.sizeOf126
  v46 := Tryd.zeroValue126
  t51 := Tryd.underlying130
  a51 := Tryd.isAgg130
  z51 := Tryd.sizeOf130
  v51 := Tryd.zeroValue130
  t105 := Tryd.underlying127
  a105 := Tryd.isAgg127
  z105 := Tryd.sizeOf127
  v105 := Tryd.zeroValue127
  t119 := Tryd.underlying134
  a119 := Tryd.isAgg134
  z119 := Tryd.sizeOf134
  t138 := Tryd.underlying136
  a138 := Tryd.isAgg136
  z138 := Tryd.sizeOf136
  v138 := Tryd.zeroValue136
  t139 := Tryd.underlying137
  a139 := Tryd.isAgg137
  z139 := Tryd.sizeOf137
  v139 := Tryd.zeroValue137
  t146 := Tryd.underlying131
  a146 := Tryd.isAgg131
  z146 := Tryd.sizeOf131
  v146 := Tryd.zeroValue131
  g1 := by kernel_rfl
  g3 := by kernel_rfl
  g4 := by kernel_rfl
  i0 := by kernel_rfl
  i3 := by kernel_rfl
  i4 := by kernel_rfl
  i5 := by kernel_rfl
  i9 := by kernel_rfl
  i21 := by kernel_rfl
  i31 := by kernel_rfl
  i46 := by kernel_rfl
  i51 := by kernel_rfl
  i105 := by kernel_rfl
  i138 := by kernel_rfl
  i139 := by kernel_rfl
  i146 := by kernel_rfl
  m1 := by kernel_rfl
  s1_3 := fun w h => Go.Proofs.cell_of_shapedOpen_int (zero := #[.int .i64 0]) (t := 3) h (of_decide_eq_true (by kernel_rfl)) (by kernel_rfl) rfl (by kernel_rfl) (by kernel_rfl) Tryd.underlying3
  m3 := by kernel_rfl
  m4 := by kernel_rfl }
open Go.RowKit Go.Lib in
theorem Tryd.strings_Split_shaped (s sep : ByteArray) (w : World) (h : w.ShapedOpen Tryd.prog) (hs : s.size < 4294967281) (h1 : 1 ≤ sep.size) :
    Calls Tryd.prog 61 #[.string s, .string sep] w fun e w' =>
      e = .returned (.slice (some ⟨w.heap.size, 0, none⟩) (Lib.countB s sep + 1) (Lib.countB s sep + 1)) ∧ w' = w.alloc (.cells ((Lib.splitB sep 0 (Lib.countB s sep) s).map Value.string).toArray 9) := Any.strings_Split_shaped Tryd.laysM146 s sep w h hs h1
def Tryd.lays197_ren : Go.Shelf.Ren := ⟨fun | 197 => 93 | 260 => 101 | n => n, fun | 9 => 9 | 21 => 21 | 3 => 3 | 4 => 4 | 5 => 5 | 105 => 127 | 119 => 134 | 0 => 0 | 46 => 126 | 139 => 137 | 138 => 136 | n => n, fun | 3 => 1 | 4 => 2 | n => n⟩
theorem Tryd.lays197 : Go.Proofs.Lays.n197 Tryd.prog Tryd.lays197_ren := {
  mixed := by kernel_rfl
  f197 := Tryd.func93.trans (congrArg some (by kernel_rfl))
  f260 := Tryd.func101.trans (congrArg some (by kernel_rfl))
  t0 := Tryd.underlying0
  a0 := Tryd.isAgg0
  z0 := Tryd.sizeOf0
  v0 := Tryd.zeroValue0
  t3 := Tryd.underlying3
  a3 := Tryd.isAgg3
  z3 := Tryd.sizeOf3
  v3 := Tryd.zeroValue3
  t4 := Tryd.underlying4
  a4 := Tryd.isAgg4
  z4 := Tryd.sizeOf4
  v4 := Tryd.zeroValue4
  t5 := Tryd.underlying5
  a5 := Tryd.isAgg5
  z5 := Tryd.sizeOf5
  v5 := Tryd.zeroValue5
  t9 := Tryd.underlying9
  a9 := Tryd.isAgg9
  z9 := Tryd.sizeOf9
  v9 := Tryd.zeroValue9
  t21 := Tryd.underlying21
  a21 := Tryd.isAgg21
  z21 := Tryd.sizeOf21
  v21 := Tryd.zeroValue21
  t46 := Tryd.underlying126
  a46 := Tryd.isAgg126
  z46 := Tryd.sizeOf126
  v46 := Tryd.zeroValue126
  t105 := Tryd.underlying127
  a105 := Tryd.isAgg127
  z105 := Tryd.sizeOf127
  v105 := Tryd.zeroValue127
  t119 := Tryd.underlying134
  a119 := Tryd.isAgg134
  z119 := Tryd.sizeOf134
  t138 := Tryd.underlying136
  a138 := Tryd.isAgg136
  z138 := Tryd.sizeOf136
  v138 := Tryd.zeroValue136
  t139 := Tryd.underlying137
  a139 := Tryd.isAgg137
  z139 := Tryd.sizeOf137
  v139 := Tryd.zeroValue137
  g3 := by kernel_rfl
  g4 := by kernel_rfl }
open Go.RowKit Go.Lib in
theorem Tryd.utf8_DecodeRuneInString_ascii (s : ByteArray) (x : UInt8) (w : World) (h0 : s.data.toList[0]? = some x) (hx : x.toNat < 128) :
    Calls Tryd.prog 93 #[.string s] w fun e w' => e = .returned (.tuple #[.int .i32 x.toNat, .int .i64 1]) ∧ w' = w := Any.utf8_DecodeRuneInString_ascii Tryd.lays197 s x w h0 hx
def Tryd.lays152_ren : Go.Shelf.Ren := ⟨fun | 152 => 102 | 137 => 104 | 119 => 105 | 224 => 90 | 225 => 89 | 217 => 88 | 266 => 99 | n => n, fun | 9 => 9 | 21 => 21 | 3 => 3 | 4 => 4 | 5 => 5 | 0 => 0 | 46 => 126 | n => n, fun | n => n⟩
theorem Tryd.lays152 : Go.Proofs.Lays.n152 Tryd.prog Tryd.lays152_ren := {
  mixed := by kernel_rfl
  f119 := Tryd.func105.trans (congrArg some (by kernel_rfl))
  f137 := Tryd.func104.trans (congrArg some (by kernel_rfl))
  f152 := Tryd.func102.trans (congrArg some (by kernel_rfl))
  f217 := Tryd.func88.trans (congrArg some (by kernel_rfl))
  f224 := Tryd.func90.trans (congrArg some (by kernel_rfl))
  f225 := Tryd.func89.trans (congrArg some (by kernel_rfl))
  f266 := Tryd.func99.trans (congrArg some (by kernel_rfl))
  t0 := Tryd.underlying0
  a0 := Tryd.isAgg0
  z0 := Tryd.sizeOf0
  v0 := Tryd.zeroValue0
  t3 := Tryd.underlying3
  a3 := Tryd.isAgg3
  z3 := Tryd.sizeOf3
  v3 := Tryd.zeroValue3
  t4 := Tryd.underlying4
  a4 := Tryd.isAgg4
  z4 := Tryd.sizeOf4
  v4 := Tryd.zeroValue4
  t5 := Tryd.underlying5
  a5 := Tryd.isAgg5
  z5 := Tryd.sizeOf5
  v5 := Tryd.zeroValue5
  t9 := Tryd.underlying9
  a9 := Tryd.isAgg9
  z9 := Tryd.sizeOf9
  v9 := Tryd.zeroValue9
  t21 := Tryd.underlying21
  a21 := Tryd.isAgg21
  z21 := Tryd.sizeOf21
  v21 := Tryd.zeroValue21
  t46 := Tryd.underlying126
  a46 := Tryd.isAgg126
  z46 := Tryd.sizeOf126
  v46 := Tryd.zeroValue126 }
open Go.RowKit Go.Lib in
theorem Tryd.strings_IndexRune_ascii (s : ByteArray) (r : Int) (w : World) (h0 : 0 ≤ r) (h1 : r < 128) :
    Calls Tryd.prog 102 #[.string s, .int .i32 r] w fun e w' => e = .returned (.int .i64 (Lib.indexByte s.data.toList r.toNat.toUInt8)) ∧ w' = w := Any.strings_IndexRune_ascii Tryd.lays152 s r w h0 h1
def Tryd.lays151_ren : Go.Shelf.Ren := ⟨fun | 151 => 94 | 152 => 102 | 137 => 104 | 119 => 105 | 224 => 90 | 225 => 89 | 217 => 88 | 266 => 99 | n => n, fun | 9 => 9 | 21 => 21 | 4 => 4 | 3 => 3 | 5 => 5 | 0 => 0 | 46 => 126 | n => n, fun | n => n⟩
theorem Tryd.lays151 : Go.Proofs.Lays.n151 Tryd.prog Tryd.lays151_ren := {
  mixed := by kernel_rfl
  f119 := Tryd.func105.trans (congrArg some (by kernel_rfl))
  f137 := Tryd.func104.trans (congrArg some (by kernel_rfl))
  f151 := Tryd.func94.trans (congrArg some (by kernel_rfl))
  f152 := Tryd.func102.trans (congrArg some (by kernel_rfl))
  f217 := Tryd.func88.trans (congrArg some (by kernel_rfl))
  f224 := Tryd.func90.trans (congrArg some (by kernel_rfl))
  f225 := Tryd.func89.trans (congrArg some (by kernel_rfl))
  f266 := Tryd.func99.trans (congrArg some (by kernel_rfl))
  t0 := Tryd.underlying0
  a0 := Tryd.isAgg0
  z0 := Tryd.sizeOf0
  v0 := Tryd.zeroValue0
  t3 := Tryd.underlying3
  a3 := Tryd.isAgg3
  z3 := Tryd.sizeOf3
  v3 := Tryd.zeroValue3
  t4 := Tryd.underlying4
  a4 := Tryd.isAgg4
  z4 := Tryd.sizeOf4
  v4 := Tryd.zeroValue4
  t5 := Tryd.underlying5
  a5 := Tryd.isAgg5
  z5 := Tryd.sizeOf5
  v5 := Tryd.zeroValue5
  t9 := Tryd.underlying9
  a9 := Tryd.isAgg9
  z9 := Tryd.sizeOf9
  v9 := Tryd.zeroValue9
  t21 := Tryd.underlying21
  a21 := Tryd.isAgg21
  z21 := Tryd.sizeOf21
  v21 := Tryd.zeroValue21
  t46 := Tryd.underlying126
  a46 := Tryd.isAgg126
  z46 := Tryd.sizeOf126
  v46 := Tryd.zeroValue126 }
open Go.RowKit Go.Lib in
theorem Tryd.strings_ContainsRune_ascii (s : ByteArray) (r : Int) (w : World) (h0 : 0 ≤ r) (h1 : r < 128) :
    Calls Tryd.prog 94 #[.string s, .int .i32 r] w fun e w' => e = .returned (.bool (decide (0 ≤ Lib.indexByte s.data.toList r.toNat.toUInt8))) ∧ w' = w := Any.strings_ContainsRune_ascii Tryd.lays151 s r w h0 h1
open Go.RowKit Go.Lib in
theorem Tryd.utf8_RuneCountInString_ascii (s : ByteArray) (w : World) (hs : s.size < 4294967281) (hascii : ∀ (j : Nat) b, s.data.toList[j]? = some b → b.toNat < 128) :
    Calls Tryd.prog 97 #[.string s] w fun e w' => e = .returned (.int .i64 s.size) ∧ w' = w.iter s s.size := Any.utf8_RuneCountInString_ascii Tryd.lays195 s w hs hascii
def Tryd.lays227_ren : Go.Shelf.Ren := ⟨fun | 227 => 78 | n => n, fun | 9 => 9 | 116 => 117 | 4 => 4 | 0 => 0 | 3 => 3 | 5 => 5 | n => n, fun | n => n⟩
theorem Tryd.lays227 : Go.Proofs.Lays.n227 Tryd.prog Tryd.lays227_ren := {
  mixed := by kernel_rfl
  f227 := Tryd.func78.trans (congrArg some (by kernel_rfl))
  t0 := Tryd.underlying0
  a0 := Tryd.isAgg0
  z0 := Tryd.sizeOf0
  v0 := Tryd.zeroValue0
  t3 := Tryd.underlying3
  a3 := Tryd.isAgg3
  z3 := Tryd.sizeOf3
  v3 := Tryd.zeroValue3
  t4 := Tryd.underlying4
  a4 := Tryd.isAgg4
  z4 := Tryd.sizeOf4
  v4 := Tryd.zeroValue4
  t5 := Tryd.underlying5
  a5 := Tryd.isAgg5
  z5 := Tryd.sizeOf5
  v5 := Tryd.zeroValue5
  t9 := Tryd.underlying9
  a9 := Tryd.isAgg9
  z9 := Tryd.sizeOf9
  v9 := Tryd.zeroValue9
  t116 := Tryd.underlying117
  a116 := Tryd.isAgg117
  z116 := Tryd.sizeOf117 }
open Go.RowKit Go.Lib in
theorem Tryd.strings_makeASCIISet (hv116 : ∀ w, (zeroValue 117).run Tryd.prog w = .ok (.agg (Array.replicate 256 (.bool false))) w) (chars : ByteArray) (w : World) (hs : chars.size < 4294967281) (hascii : ∀ (j : Nat) b, chars.data.toList[j]? = some b → b.toNat < 128) :
    Calls Tryd.prog 78 #[.string chars] w fun e w' => e = .returned (.tuple #[.agg (Lib.setCells chars.data.toList), .bool true]) ∧ w' = w.alloc (.cells (Lib.setCells chars.data.toList) 117) := Any.strings_makeASCIISet Tryd.lays227 hv116 (by kernel_rfl) chars w hs hascii
def Tryd.lays228_ren : Go.Shelf.Ren := ⟨fun | 228 => 92 | n => n, fun | 124 => 121 | 5 => 5 | 4 => 4 | 0 => 0 | 116 => 117 | n => n, fun | n => n⟩
theorem Tryd.lays228 : Go.Proofs.Lays.n228 Tryd.prog Tryd.lays228_ren := {
  mixed := by kernel_rfl
  f228 := Tryd.func92.trans (congrArg some (by kernel_rfl))
  t0 := Tryd.underlying0
  a0 := Tryd.isAgg0
  z0 := Tryd.sizeOf0
  v0 := Tryd.zeroValue0
  t4 := Tryd.underlying4
  a4 := Tryd.isAgg4
  z4 := Tryd.sizeOf4
  v4 := Tryd.zeroValue4
  t5 := Tryd.underlying5
  a5 := Tryd.isAgg5
  z5 := Tryd.sizeOf5
  v5 := Tryd.zeroValue5
  t116 := Tryd.underlying117
  a116 := Tryd.isAgg117
  z116 := Tryd.sizeOf117
  t124 := Tryd.underlying121
  a124 := Tryd.isAgg121
  z124 := Tryd.sizeOf121
  v124 := Tryd.zeroValue121 }
open Go.RowKit Go.Lib in
theorem Tryd.asciiSet_contains (b : Nat) (x : UInt8) (v : Bool) (w : World) (hc : w.cell? ⟨b, x.toNat, none⟩ = some (.bool v)) :
    Calls Tryd.prog 92 #[.pointer (some ⟨b, 0, none⟩), .int .u8 x.toNat] w fun e w' => e = .returned (.bool v) ∧ w' = w := Any.asciiSet_contains Tryd.lays228 b x v w hc
def Tryd.lays268_ren : Go.Shelf.Ren := ⟨fun | 268 => 86 | 195 => 97 | 197 => 93 | 260 => 101 | n => n, fun | 9 => 9 | 3 => 3 | 31 => 76 | 4 => 4 | 105 => 127 | 21 => 21 | 0 => 0 | 5 => 5 | 119 => 134 | 46 => 126 | 139 => 137 | 138 => 136 | n => n, fun | 3 => 1 | 4 => 2 | n => n⟩
theorem Tryd.lays268 : Go.Proofs.Lays.n268 Tryd.prog Tryd.lays268_ren := {
  mixed := by kernel_rfl
  f195 := Tryd.func97.trans (congrArg some (by kernel_rfl))
  f197 := Tryd.func93.trans (congrArg some (by kernel_rfl))
  f260 := Tryd.func101.trans (congrArg some (by kernel_rfl))
  f268 := Tryd.func86.trans (congrArg some (by kernel_rfl))
  t0 := Tryd.underlying0
  a0 := Tryd.isAgg0
  z0 := Tryd.sizeOf0
  v0 := Tryd.zeroValue0
  t3 := Tryd.underlying3
  a3 := Tryd.isAgg3
  z3 := Tryd.sizeOf3
  v3 := Tryd.zeroValue3
  t4 := Tryd.underlying4
  a4 := Tryd.isAgg4
  z4 := Tryd.sizeOf4
  v4 := Tryd.zeroValue4
  t5 := Tryd.underlying5
  a5 := Tryd.isAgg5
  z5 := Tryd.sizeOf5
  v5 := Tryd.zeroValue5
  t9 := Tryd.underlying9
  a9 := Tryd.isAgg9
  z9 := Tryd.sizeOf9
  v9 := Tryd.zeroValue9
  t21 := Tryd.underlying21
  a21 := Tryd.isAgg21
  z21 := Tryd.sizeOf21
  v21 := Tryd.zeroValue21
  t31 := Tryd.underlying76
  a31 := Tryd.isAgg76
  z31 := Tryd.sizeOf76
  v31 := Tryd.zeroValue76
  t46 := Tryd.underlying126
  a46 := Tryd.isAgg126
  z46 := Tryd.sizeOf126
  v46 := Tryd.zeroValue126
  t105 := Tryd.underlying127
  a105 := Tryd.isAgg127
  z105 := Tryd.sizeOf127
  v105 := Tryd.zeroValue127
  t119 := Tryd.underlying134
  a119 := Tryd.isAgg134
  z119 := Tryd.sizeOf134
  t138 := Tryd.underlying136
  a138 := Tryd.isAgg136
  z138 := Tryd.sizeOf136
  v138 := Tryd.zeroValue136
  t139 := Tryd.underlying137
  a139 := Tryd.isAgg137
  z139 := Tryd.sizeOf137
  v139 := Tryd.zeroValue137
  g3 := by kernel_rfl
  g4 := by kernel_rfl }
open Go.RowKit Go.Lib in
theorem Tryd.strings_explode_all (s : ByteArray) (n : Int) (w : World) (hn : n < 0) (hs : s.size < 4294967281) (hascii : ∀ (j : Nat) b, s.data.toList[j]? = some b → b.toNat < 128) :
    Calls Tryd.prog 86 #[.string s, .int .i64 n] w fun e w' =>
      e = .returned (.slice (some ⟨(w.iter s s.size).heap.size, 0, none⟩) s.size s.size) ∧ w' = (w.iter s s.size).alloc (.cells ((Lib.charsB s).map Value.string).toArray 9) := Any.strings_explode_all Tryd.lays268 (by kernel_rfl) s n w hn hs hascii
open Go.RowKit Go.Lib in
theorem Tryd.strings_genSplit_chars (s sep : ByteArray) (sv n : Int) (w : World) (h0 : sep.size = 0) (hn : n < 0) (hs : s.size < 4294967281) (hascii : ∀ (j : Nat) b, s.data.toList[j]? = some b → b.toNat < 128) :
    Calls Tryd.prog 72 #[.string s, .string sep, .int .i64 sv, .int .i64 n] w fun e w' =>
      e = .returned (.slice (some ⟨(w.iter s s.size).heap.size, 0, none⟩) s.size s.size) ∧ w' = (w.iter s s.size).alloc (.cells ((Lib.charsB s).map Value.string).toArray 9) := Any.strings_genSplit_chars Tryd.lays221 (by kernel_rfl) s sep sv n w h0 hn hs hascii
open Go.RowKit Go.Lib in
theorem Tryd.strings_Split_chars (s sep : ByteArray) (w : World) (h0 : sep.size = 0) (hs : s.size < 4294967281) (hascii : ∀ (j : Nat) b, s.data.toList[j]? = some b → b.toNat < 128) :
    Calls Tryd.prog 61 #[.string s, .string sep] w fun e w' =>
      e = .returned (.slice (some ⟨(w.iter s s.size).heap.size, 0, none⟩) s.size s.size) ∧ w' = (w.iter s s.size).alloc (.cells ((Lib.charsB s).map Value.string).toArray 9) := Any.strings_Split_chars Tryd.lays146 (by kernel_rfl) s sep w h0 hs hascii
def Tryd.lays260_ren : Go.Shelf.Ren := ⟨fun | 260 => 101 | n => n, fun | 9 => 9 | 21 => 21 | 3 => 3 | 4 => 4 | 5 => 5 | 119 => 134 | 0 => 0 | 46 => 126 | 139 => 137 | 138 => 136 | n => n, fun | 3 => 1 | 4 => 2 | n => n⟩
theorem Tryd.lays260 : Go.Proofs.Lays.n260 Tryd.prog Tryd.lays260_ren := {
  mixed := by kernel_rfl
  f260 := Tryd.func101.trans (congrArg some (by kernel_rfl))
  t0 := Tryd.underlying0
  a0 := Tryd.isAgg0
  z0 := Tryd.sizeOf0
  v0 := Tryd.zeroValue0
  t3 := Tryd.underlying3
  a3 := Tryd.isAgg3
  z3 := Tryd.sizeOf3
  v3 := Tryd.zeroValue3
  t4 := Tryd.underlying4
  a4 := Tryd.isAgg4
  z4 := Tryd.sizeOf4
  v4 := Tryd.zeroValue4
  t5 := Tryd.underlying5
  a5 := Tryd.isAgg5
  z5 := Tryd.sizeOf5
  v5 := Tryd.zeroValue5
  t9 := Tryd.underlying9
  a9 := Tryd.isAgg9
  z9 := Tryd.sizeOf9
  v9 := Tryd.zeroValue9
  t21 := Tryd.underlying21
  a21 := Tryd.isAgg21
  z21 := Tryd.sizeOf21
  v21 := Tryd.zeroValue21
  t46 := Tryd.underlying126
  a46 := Tryd.isAgg126
  z46 := Tryd.sizeOf126
  v46 := Tryd.zeroValue126
  t119 := Tryd.underlying134
  a119 := Tryd.isAgg134
  z119 := Tryd.sizeOf134
  t138 := Tryd.underlying136
  a138 := Tryd.isAgg136
  z138 := Tryd.sizeOf136
  v138 := Tryd.zeroValue136
  t139 := Tryd.underlying137
  a139 := Tryd.isAgg137
  z139 := Tryd.sizeOf137
  v139 := Tryd.zeroValue137
  g3 := by kernel_rfl
  g4 := by kernel_rfl }
open Go.RowKit Go.Lib in
theorem Tryd.utf8_decodeRuneInStringSlow (s : ByteArray) (w : World) (hT : Lib.Utf8Tabs 1 2 w) :
    Calls Tryd.prog 101 #[.string s] w fun e w' => e = .returned (.tuple #[.int .i32 (Lib.decodeGo s).1, .int .i64 (Lib.decodeGo s).2]) ∧ Below w.heap.size w w' := Any.utf8_decodeRuneInStringSlow Tryd.lays260 s w hT
open Go.RowKit Go.Lib in
theorem Tryd.utf8_DecodeRuneInString (s : ByteArray) (w : World) (hT : Lib.Utf8Tabs 1 2 w) :
    Calls Tryd.prog 93 #[.string s] w fun e w' => e = .returned (.tuple #[.int .i32 (Lib.decodeGo s).1, .int .i64 (Lib.decodeGo s).2]) ∧ Below w.heap.size w w' := Any.utf8_DecodeRuneInString Tryd.lays197 s w hT
def Tryd.lays271_ren : Go.Shelf.Ren := ⟨fun | 271 => 95 | 120 => 103 | 197 => 93 | 260 => 101 | n => n, fun | 9 => 9 | 21 => 21 | 3 => 3 | 4 => 4 | 5 => 5 | 105 => 127 | 119 => 134 | 0 => 0 | 46 => 126 | 139 => 137 | 138 => 136 | n => n, fun | 3 => 1 | 4 => 2 | n => n⟩
theorem Tryd.lays271 : Go.Proofs.Lays.n271 Tryd.prog Tryd.lays271_ren := {
  mixed := by kernel_rfl
  f120 := Tryd.func103.trans (congrArg some (by kernel_rfl))
  f197 := Tryd.func93.trans (congrArg some (by kernel_rfl))
  f260 := Tryd.func101.trans (congrArg some (by kernel_rfl))
  f271 := Tryd.func95.trans (congrArg some (by kernel_rfl))
  t0 := Tryd.underlying0
  a0 := Tryd.isAgg0
  z0 := Tryd.sizeOf0
  v0 := Tryd.zeroValue0
  t3 := Tryd.underlying3
  a3 := Tryd.isAgg3
  z3 := Tryd.sizeOf3
  v3 := Tryd.zeroValue3
  t4 := Tryd.underlying4
  a4 := Tryd.isAgg4
  z4 := Tryd.sizeOf4
  v4 := Tryd.zeroValue4
  t5 := Tryd.underlying5
  a5 := Tryd.isAgg5
  z5 := Tryd.sizeOf5
  v5 := Tryd.zeroValue5
  t9 := Tryd.underlying9
  a9 := Tryd.isAgg9
  z9 := Tryd.sizeOf9
  v9 := Tryd.zeroValue9
  t21 := Tryd.underlying21
  a21 := Tryd.isAgg21
  z21 := Tryd.sizeOf21
  v21 := Tryd.zeroValue21
  t46 := Tryd.underlying126
  a46 := Tryd.isAgg126
  z46 := Tryd.sizeOf126
  v46 := Tryd.zeroValue126
  t105 := Tryd.underlying127
  a105 := Tryd.isAgg127
  z105 := Tryd.sizeOf127
  v105 := Tryd.zeroValue127
  t119 := Tryd.underlying134
  a119 := Tryd.isAgg134
  z119 := Tryd.sizeOf134
  t138 := Tryd.underlying136
  a138 := Tryd.isAgg136
  z138 := Tryd.sizeOf136
  v138 := Tryd.zeroValue136
  t139 := Tryd.underlying137
  a139 := Tryd.isAgg137
  z139 := Tryd.sizeOf137
  v139 := Tryd.zeroValue137
  g3 := by kernel_rfl
  g4 := by kernel_rfl }
open Go.RowKit Go.Lib in
theorem Tryd.utf8_DecodeLastRuneInString (s : ByteArray) (w : World) (hs : s.size ≤ 9223372036854775807) (hT : Lib.Utf8Tabs 1 2 w) :
    Calls Tryd.prog 95 #[.string s] w fun e w' => e = .returned (.tuple #[.int .i32 (Lib.decodeLastL s.data.toList).1, .int .i64 (Lib.decodeLastL s.data.toList).2]) ∧ Below w.heap.size w w' := Any.utf8_DecodeLastRuneInString Tryd.lays271 s w hs hT
end Go.Proofs
namespace Go.Proofs.YtlbainbjlibfiaaDoor
open Go.RowKit
namespace Ab
theorem acall2 {P : Program} {f : FuncId} {a b u : Value} {r : A} (hfn : FnOk P f) (hr : ∀ ok w, r.rep ok noNames w u) (h : ∀ w, GlobCell w → Calls P f #[a, b] w fun e w' => e = .returned u ∧ Below w.heap.size w w') : ACall P f [.one (.lit a), .one (.lit b)] r := by
  refine ⟨hfn, fun ok w vs hg hvs => ?_⟩
  obtain ⟨v, t, rfl, hv, v2, t2, rfl, hv2, ht⟩ := hvs
  rw [show t2 = [] from ht, show v = a from hv, show v2 = b from hv2]
  refine (h w hg.2.2).mono ?_
  rintro e w' ⟨rfl, hb⟩
  exact ⟨_, rfl, hb, hr _ _⟩
theorem same_below {e : Ending} {u : Value} {w w' : World} (h : e = .returned u ∧ w' = w) : e = .returned u ∧ Below w.heap.size w w' := ⟨h.1, by rw [h.2]; exact Below.refl _ _⟩
theorem hasPrefix_c (s p : ByteArray) : ACall Tryd.prog 64 [is s, is p] (ib (Lib.hasPrefix s.data.toList p.data.toList)) :=
  acall2 ⟨_, Tryd.func64, rfl, rfl⟩ (fun _ _ => rfl) fun w _ => (Tryd.strings_HasPrefix s p w).mono fun _ _ h => same_below h
theorem contains_c (s p : ByteArray) (hs : s.size < 4294967281) : ACall Tryd.prog 65 [is s, is p] (ib (Lib.contains s.data.toList p.data.toList)) :=
  acall2 ⟨_, Tryd.func65, rfl, rfl⟩ (fun _ _ => rfl) fun w ⟨m, hm⟩ => (Tryd.strings_Contains s p m w hs hm).mono fun _ _ h => same_below h
theorem trimPrefix_c (s p : ByteArray) : ACall Tryd.prog 84 [is s, is p] (is ⟨(Lib.trimPrefix s.data.toList p.data.toList).toArray⟩) :=
  acall2 ⟨_, Tryd.func84, rfl, rfl⟩ (fun _ _ => rfl) fun w _ => (Tryd.strings_TrimPrefix s p w).mono fun _ _ h => same_below h
theorem cut_c (s p : ByteArray) (hs : s.size < 4294967281) : ACall Tryd.prog 51 [is s, is p] (.tup [(false, [.lit (.string ⟨(Lib.cut s.data.toList p.data.toList).1.toArray⟩)]), (false, [.lit (.string ⟨(Lib.cut s.data.toList p.data.toList).2.1.toArray⟩)]), (false, [.lit (.bool (Lib.cut s.data.toList p.data.toList).2.2)])]) :=
  acall2 ⟨_, Tryd.func51, rfl, rfl⟩ (fun _ _ => ⟨_, rfl, _, _, rfl, ⟨_, _, rfl, rfl, rfl⟩, _, _, rfl, ⟨_, _, rfl, rfl, rfl⟩, _, _, rfl, ⟨_, _, rfl, rfl, rfl⟩, rfl⟩) fun w ⟨m, hm⟩ => (Tryd.strings_Cut s p m w hs hm).mono fun _ _ h => ⟨h.1, by obtain ⟨n, hn⟩ := h.2; rw [hn]; exact ⟨rfl, rfl, rfl, Nat.le_refl _, fun _ _ => rfl⟩⟩
theorem split_c (s p : ByteArray) (hs : s.size < 4294967281) (h1 : 1 ≤ p.size) (hc : Lib.countB s p + 1 ≤ maxLen) : ACall Tryd.prog 61 [is s, is p] (.one (.sl .str (Lib.splitB p 0 (Lib.countB s p) s))) := by
  refine ⟨⟨_, Tryd.func61, rfl, rfl⟩, fun ok w vs hg hvs => ?_⟩
  obtain ⟨v, t, rfl, hv, v2, t2, rfl, hv2, ht⟩ := hvs
  rw [show t2 = [] from ht, show v = .string s from hv, show v2 = .string p from hv2]
  obtain ⟨_, _, m, hm⟩ := hg
  refine (Tryd.strings_Split s p m w hs hm h1).mono ?_
  rintro e w' ⟨rfl, rfl⟩
  refine ⟨_, rfl, below_alloc w _, ?_⟩
  have hl := Lib.splitB_all p h1 0 (Lib.countB s p) s rfl
  rw [← hl] at hc ⊢
  refine ⟨_, _, rfl, Nat.le_refl _, hc, fun i hi => ⟨w.heap.size, 0, [.string (Lib.splitB p 0 (Lib.countB s p) s)[i]], rfl, okU0 (.inr ⟨Nat.le_refl _, by decide⟩), by simp, ⟨rfl, fun j hj => ?_⟩, rfl⟩⟩
  obtain rfl : j = 0 := by simp only [Rd.n] at hj; omega
  have hh : (w.alloc (Obj.cells (List.map Value.string (Lib.splitB p 0 (Lib.countB s p) s)).toArray 9)).heap[w.heap.size]? = _ := heap_new w _
  simp only [World.cell?, hh]
  simp [Rd.n, hi]
theorem join_c (xs : List ByteArray) (sep : ByteArray) (hN : xs.length ≤ 140737488355328) (hlen : (Lib.join (xs.map (·.data.toList)) sep.data.toList).length ≤ 140737488355328) : ACall Tryd.prog 44 [.one (.sl .str xs), is sep] (is ⟨(Lib.join (xs.map (·.data.toList)) sep.data.toList).toArray⟩) := by
  refine ⟨⟨_, Tryd.func44, rfl, rfl⟩, fun ok w vs hg hvs => ?_⟩
  obtain ⟨v, t, rfl, ⟨a, cap, rfl, h1, h2, hc⟩, v2, t2, rfl, hv2, ht⟩ := hvs
  rw [show t2 = [] from ht, show v2 = .string sep from hv2]
  by_cases h0 : xs = []
  · subst h0
    refine (Tryd.strings_Join_none a cap sep w).mono ?_
    rintro e w' ⟨rfl, rfl⟩
    exact ⟨_, rfl, Below.refl _ _, rfl⟩
  · have hpos : 0 < xs.length := List.length_pos_iff.2 h0
    obtain ⟨b, off, _, rfl, _, hb, _⟩ := hc 0 hpos
    refine (Tryd.strings_Join b off cap xs sep w (fun j x hj => ?_) hb hN h1 hlen).mono ?_
    · obtain ⟨hjl, rfl⟩ := List.getElem?_eq_some_iff.1 hj
      obtain ⟨b', off', cs, e, _, _, hcell, hr⟩ := hc j hjl
      cases e
      have hr : cs = [.string xs[j]] := hr
      have := hcell.2 0 (by decide)
      rw [hr] at this
      simpa [Rd.n] using this
    · rintro e w' ⟨rfl, hb⟩
      exact ⟨_, rfl, hb, rfl⟩
end Ab
end Go.Proofs.YtlbainbjlibfiaaDoor
namespace Go.Proofs.YtlbainbjlibfiaaDoor
open Go.RowKit
namespace Ab
theorem trimS_c (s p : ByteArray) (hp : p.data.toList.all (fun b => decide (b.toNat < 128)) = true) (hps : p.size < 4294967281) (hs : s.size ≤ 9223372036854775807) : ACall Tryd.prog 68 [is s, is p] (is ⟨(Lib.trimS s.data.toList p.data.toList).toArray⟩) :=
  acall2 ⟨_, Tryd.func68, rfl, rfl⟩ (fun _ _ => rfl) fun w _ => (Any.strings_Trim_laid Tryd.lays160 (by kernel_rfl) s p w hs hps (ascii_of_all hp)).mono fun _ _ h => h
end Ab
end Go.Proofs.YtlbainbjlibfiaaDoor
namespace Go.Proofs.YtlbainbjlibfiaaDoor
open Go.RowKit
namespace Ab
set_option maxRecDepth 100000
abbrev Fld := ByteArray × ByteArray
abbrev rFld : Rd Fld := .st .str .str
theorem app_le {n b : Nat} (h : n ≤ 1000000000) (hb : b ≤ 1000) : n * b ≤ 140737488355328 := Nat.le_trans (Nat.mul_le_mul h hb) (by decide)
theorem map_next {α β : Type} (g : α → β) (d : α) {l : List α} {i : Nat} (h : i < l.length) (b : β) (hb : b = g (l.getD i d)) (c : List β) : c ++ (l.take i).map g ++ [b] = c ++ (l.take (i + 1)).map g := by
  rw [hb, List.append_assoc, ← take_snoc d h, List.map_append]; rfl
namespace Q
def FldsOk (l : List Fld) : Prop := l.length ≤ 1000 ∧ ∀ f ∈ l, f.1.size ≤ 1000000 ∧ f.2.size ≤ 1000000
def sumF (l : List Fld) : Nat := (l.map fun f => min f.1.size 10000 + min f.2.size 10000).sum
def muchB (l : List Fld) : Bool := decide (61 < l.length) || decide (6000 < sumF l)
theorem sumF_take (l : List Fld) (i : Nat) (h : i < l.length) : sumF (l.take (i + 1)) = sumF (l.take i) + (min (l.getD i (ByteArray.empty, ByteArray.empty)).1.size 10000 + min (l.getD i (ByteArray.empty, ByteArray.empty)).2.size 10000) := by
  rw [List.take_succ_eq_append_getElem h, sumF, List.map_append, List.sum_append, List.getD_eq_getElem?_getD, List.getElem?_eq_getElem h]
  simp [sumF]
theorem sumF_le (l : List Fld) (i : Nat) : sumF (l.take i) ≤ sumF l := by
  conv => rhs; rw [← List.take_append_drop i l, sumF, List.map_append, List.sum_append]
  exact Nat.le_add_right _ _
theorem much_c (l : List Fld) : ACall Tryd.prog 7 [.one (.sl rFld l)] (ib (muchB l)) := by
  refine acall_of (rs := [2]) Tryd.func7 rfl rfl rfl teOk rfl ?_
  refine acode_seq ?_
  refine acode_region ?_
  refine acode_seq ?_
  refine acode_region ?_
  refine acode_seq ?_
  refine acode_seq ?_
  refine acode_region ?_
  intro l2_1
  try simp only [Int.toNat_natCast, dflt_sl, dflt_st, dflt_str, dflt_int, dflt_bool] at l2_1
  refine acode_block ?_
  refine acode_loopP (fun (i : Nat) => i ≤ l.length ∧ i ≤ 61 ∧ sumF (l.take i) ≤ 6000) (fun (i : Nat) => [(3, ii .i64 (sumF (l.take i))), (6, .one (.sl rFld l)), (7, ii .i64 l.length), (8, ii .i64 i)]) (fun (i : Nat) => []) 0 (fun (i : Nat) => l.length - i) 0 (⟨Nat.zero_le _, Nat.zero_le _, Nat.zero_le _⟩) (le_of ⟨rfl, rfl, rfl, rfl⟩ trivial rfl) ?_
  intro i hI0
  obtain ⟨hi, hi2, hn⟩ := hI0
  refine acode_seq ?_
  refine acode_region ?_
  refine acode_seq ?_
  refine acode_cond rfl (fun h9 => ?_) (fun h9 => ?_)
  ·try simp only [decide_eq_true_eq] at h9
   try simp only [Int.toNat_natCast, dflt_sl, dflt_st, dflt_str, dflt_int, dflt_bool] at h9
   have hs := sumF_take l i (by omega)
   refine acode_skip ?_
   refine acode_seq ?_
   refine acode_block ?_
   refine acode_seq ?_
   refine acode_region ?_
   refine And.intro (by first | omega | assumption | decide | (simp only [Int.toNat_natCast, dflt_sl, dflt_st, dflt_str, dflt_int, dflt_bool]; omega) | (simp <;> omega)) ?_
   refine acode_seq ?_
   refine acode_region ?_
   refine And.intro (by first | omega | assumption | decide | (simp only [Int.toNat_natCast, dflt_sl, dflt_st, dflt_str, dflt_int, dflt_bool]; omega) | (simp <;> omega)) ?_
   refine And.intro (by first | omega | assumption | decide | (simp only [Int.toNat_natCast, dflt_sl, dflt_st, dflt_str, dflt_int, dflt_bool]; omega) | (simp <;> omega)) ?_
   refine acode_seq ?_
   refine acode_region ?_
   refine And.intro (fun h => trivial) ?_
   refine And.intro (fun h => ⟨⟨h, trivial⟩, trivial⟩) ?_
   refine And.intro (by first | (intro h; rw [h]; rfl) | (intro h; cases h)) ?_
   refine acode_cond rfl (fun h29 => ?_) (fun h29 => ?_)
   ·try simp only [decide_eq_true_eq, Bool.or_eq_true] at h29
    try simp only [Int.toNat_natCast, dflt_st, dflt_str] at h29
    refine acode_seq ?_
    refine acode_region ?_
    refine acode_ret ?_
    refine ib_eq ?_
    unfold muchB
    have hz := sumF_le l (i + 1)
    rcases h29 with h | h
    (rw [decide_eq_true (show 61 < l.length by omega)]; rfl)
    rw [decide_eq_true (show 6000 < sumF l by omega), Bool.or_true]
   ·try simp only [decide_eq_false_iff_not, Bool.or_eq_false_iff, Int.not_lt] at h29
    try simp only [Int.toNat_natCast, dflt_st, dflt_str] at h29
    refine acode_skip ?_
    refine acode_region ?_
    refine And.intro (by first | omega | assumption | decide | (simp only [Int.toNat_natCast, dflt_sl, dflt_st, dflt_str, dflt_int, dflt_bool]; omega) | (simp <;> omega)) ?_
    exact ⟨i + 1, ⟨by omega, by omega, by omega⟩, by first | omega | (simp <;> omega), le_of ⟨(ii_eq (by (simp only [Int.toNat_natCast, dflt_st, dflt_str]; omega))), rfl, rfl, rfl⟩ trivial rfl⟩
  ·try simp only [decide_eq_false_iff_not, Int.not_lt] at h9
   try simp only [Int.toNat_natCast, dflt_sl, dflt_st, dflt_str, dflt_int, dflt_bool] at h9
   refine acode_exit ?_
   refine acode_seq ?_
   refine acode_region ?_
   refine acode_ret ?_
   refine ib_eq ?_
   have e : i = l.length := by omega
   subst e
   rw [List.take_length] at hn
   unfold muchB
   rw [decide_eq_false (by omega), decide_eq_false (by omega)]
   rfl
theorem drop_cons {l : List UInt8} {i : Nat} (h : i < l.length) : l.drop i = l.getD i 0 :: l.drop (i + 1) := by
  rw [List.drop_eq_getElem_cons h, List.getD_eq_getElem?_getD, List.getElem?_eq_getElem h]; rfl
theorem size_list (s : ByteArray) : s.size = s.data.toList.length := by cases s; rfl
abbrev ls (s : ByteArray) : List UInt8 := s.data.toList
def bytes (l : List UInt8) : ByteArray := ⟨l.toArray⟩
theorem bytes_list (l : List UInt8) : (bytes l).data.toList = l := by simp [bytes]
theorem bytes_ls (s : ByteArray) : bytes (ls s) = s := by cases s; rfl
def Clean (sep p : List UInt8) : Prop := (∀ r j, j < p.length → Lib.occAt (p ++ sep ++ r) sep j = false) ∧ ∀ j, j ≤ p.length → Lib.occAt p sep j = false
theorem join_two (p q : List UInt8) (ps : List (List UInt8)) (sep : List UInt8) : Lib.join (p :: q :: ps) sep = p ++ sep ++ Lib.join (q :: ps) sep := by
  rw [Lib.join_cons, Lib.join_cons]; simp [Lib.joinTail]
theorem ints_app (l m : List UInt8) : intsOf (bytes l) ++ intsOf (bytes m) = intsOf (bytes (l ++ m)) := by
  unfold intsOf; rw [bytes_list, bytes_list, bytes_list, List.map_append]
theorem ints_len (l : List UInt8) : (intsOf (bytes l)).length = l.length := by unfold intsOf; rw [bytes_list, List.length_map]
theorem extract_one {s : ByteArray} {i : Nat} (h : i < s.data.toList.length) : s.extract i (i + 1) = bytes [s.data.toList.getD i 0] := by
  apply ByteArray.ext
  apply Array.ext'
  rw [bytes_list, Lib.extract_data, Nat.add_sub_cancel_left, drop_cons h]
  rfl
theorem bytes_app (l m : List UInt8) : bytes (l ++ m) = bytes l ++ bytes m := by
  apply ByteArray.ext; simp [bytes]
theorem ints_add (l m : List UInt8) (t : ByteArray) (h : t = bytes m) : intsOf (bytes l) ++ intsOf t = intsOf (bytes (l ++ m)) := by rw [h, ints_app]
theorem bytes_size (l : List UInt8) : (bytes l).size = l.length := by rw [size_list, bytes_list]
theorem extract_ls (s : ByteArray) (a b : Nat) : (s.extract a b).data.toList = (s.data.toList.drop a).take (b - a) := Lib.extract_data s a b
theorem occ_one (l : List UInt8) (c : UInt8) (i : Nat) : Lib.occAt l [c] i = true ↔ l[i]? = some c := by
  refine ⟨fun h => Lib.occAt_head rfl h, fun h => ?_⟩
  unfold Lib.occAt
  obtain ⟨hi, e⟩ := List.getElem?_eq_some_iff.1 h
  rw [List.drop_eq_getElem_cons hi, e]
  simp [List.isPrefixOf]
theorem contains_one (l : List UInt8) (c : UInt8) : Lib.contains l [c] = decide (c ∈ l) := by
  unfold Lib.contains
  refine decide_eq_decide.2 ⟨fun h => ?_, fun h => ?_⟩
  · rcases Lib.index_spec l [c] with ⟨e, _⟩ | ⟨i, _, _, h3, _⟩
    · omega
    · exact List.mem_of_getElem? ((occ_one l c i).1 h3)
  · obtain ⟨i, hi, e⟩ := List.getElem_of_mem h
    rcases Lib.index_spec l [c] with ⟨_, h2⟩ | ⟨i, h1, _⟩
    · have := h2 i (Nat.le_of_lt hi)
      rw [(occ_one l c i).2 (by rw [List.getElem?_eq_getElem hi, e])] at this
      cases this
    · omega
def blankC (c : UInt8) : Bool := decide (c = 32) || decide (c = 9)
def blankL (l : List UInt8) : Bool := decide (1 ≤ l.length) && blankC (l.getD 0 0)
def keyOk (l : List UInt8) : Bool := (((((decide (1 ≤ l.length) && decide (l.length ≤ 32)) && !blankC (l.getD 0 0)) && !decide (l.getD 0 0 = 35)) && !decide (58 ∈ l)) && !decide (10 ∈ l))
theorem emp {s : ByteArray} : s = ⟨#[]⟩ ↔ s.data.toList.length = 0 := by
  refine ⟨fun h => by rw [h]; rfl, fun h => ?_⟩
  have := List.eq_nil_of_length_eq_zero h
  rw [← bytes_ls s, show ls s = [] from this]; rfl
theorem hasPrefix_one (l : List UInt8) (c : UInt8) : Lib.hasPrefix l [c] = (decide (1 ≤ l.length) && decide (l.getD 0 0 = c)) := by
  unfold Lib.hasPrefix
  cases l with
  | nil => rfl
  | cons d l =>
    have : (c == d) = decide (d = c) := by rw [Bool.eq_iff_iff, beq_iff_eq, decide_eq_true_iff]; exact eq_comm
    simp [List.isPrefixOf, this]
theorem keyOk_prog (l : List UInt8) : keyOk l = (!(((decide (l.length = 0) || decide (32 < l.length)) || blankL l) || Lib.hasPrefix l [35]) && (!Lib.contains l [58] && !Lib.contains l [10])) := by
  rw [contains_one, contains_one, hasPrefix_one]
  unfold keyOk blankL
  by_cases h : 1 ≤ l.length
  · have h0 : ¬ l.length = 0 := by omega
    by_cases h2 : l.length ≤ 32
    · have h3 : ¬ 32 < l.length := by omega
      simp [h, h0, h2, h3, Bool.and_assoc]
    · have h3 : 32 < l.length := by omega
      simp [h2, h3]
  · have h0 : l.length = 0 := by omega
    simp [h0]
theorem blank_c (s : ByteArray) (hs : s.size ≤ 1000000000) : ACall Tryd.prog 63 [is s] (ib (blankL s.data.toList)) := by
  have hz := size_list s
  refine acall_of (rs := [2]) Tryd.func63 rfl rfl rfl teOk rfl ?_
  refine acode_seq ?_
  refine acode_region ?_
  refine acode_seq ?_
  refine acode_region ?_
  refine And.intro (fun h => trivial) ?_
  refine And.intro (fun h => ⟨⟨⟨h, trivial⟩, trivial⟩, by have h9 : ¬ s = ⟨#[]⟩ := (by simpa [gq] using h); rw [emp] at h9; omega⟩) ?_
  refine Or.inl ?_
  refine And.intro (rfl) ?_
  refine Exists.intro _ (And.intro (fun h => ⟨⟨⟨h, trivial⟩, trivial⟩, contains_c _ _ (by decide)⟩) ?_)
  refine And.intro (by exact fun h => h) ?_
  refine acode_ret ?_
  refine ib_eq ?_
  by_cases h : s.data.toList.length = 0
  ·rw [decide_eq_true (emp.2 h), Bool.not_true, Bool.false_and]; unfold blankL; rw [h]; rfl
  ·rw [decide_eq_false (fun e => h (emp.1 e)), show s.extract (Int.toNat 0) (Int.toNat 1) = bytes [s.data.toList.getD 0 0] from extract_one (by omega), bytes_list, contains_one]; unfold blankL blankC; rw [decide_eq_true (show 1 ≤ s.data.toList.length by omega)]; simp
theorem key_c (s : ByteArray) (hs : s.size ≤ 1000000000) : ACall Tryd.prog 48 [is s] (ib (keyOk s.data.toList)) := by
  have hz := size_list s
  refine acall_of (rs := [2]) Tryd.func48 rfl rfl rfl teOk rfl ?_
  refine acode_seq ?_
  refine acode_region ?_
  refine acode_seq ?_
  refine acode_seq ?_
  refine acode_region ?_
  refine And.intro (fun h => trivial) ?_
  refine And.intro (fun h => ⟨⟨h, trivial⟩, trivial⟩) ?_
  refine And.intro (fun h => ⟨⟨h, trivial⟩, trivial⟩) ?_
  refine And.intro (by first | (intro h; rw [h]; rfl) | (intro h; cases h)) ?_
  refine And.intro (fun h => trivial) ?_
  refine Or.inl ?_
  refine And.intro (rfl) ?_
  refine Exists.intro _ (And.intro (fun h => ⟨⟨⟨h, trivial⟩, trivial⟩, blank_c _ hs⟩) ?_)
  refine And.intro (by first | (intro h; rw [h]; rfl) | (intro h; cases h)) ?_
  refine And.intro (fun h => trivial) ?_
  refine Or.inl ?_
  refine And.intro (rfl) ?_
  refine Exists.intro _ (And.intro (fun h => ⟨⟨⟨h, trivial⟩, trivial⟩, hasPrefix_c _ _⟩) ?_)
  refine And.intro (by first | (intro h; rw [h]; rfl) | (intro h; cases h)) ?_
  refine acode_cond rfl (fun h17 => ?_) (fun h17 => ?_)
  ·try simp only [decide_eq_true_eq, Bool.or_eq_true] at h17
   try simp only [Int.toNat_natCast, dflt_sl, dflt_st, dflt_str, dflt_int, dflt_bool] at h17
   refine acode_seq ?_
   refine acode_region ?_
   refine acode_ret ?_
   refine ib_eq ?_
   rw [keyOk_prog]
   rw [emp] at h17
   rcases h17 with ((h | h) | h) | h
   ·simp [h]
   ·rw [decide_eq_true (show 32 < s.data.toList.length by omega)]; simp
   ·simp [h]
   ·simp [h]
  ·try simp only [decide_eq_false_iff_not, Bool.or_eq_false_iff, Int.not_lt] at h17
   try simp only [Int.toNat_natCast, dflt_sl, dflt_st, dflt_str, dflt_int, dflt_bool] at h17
   refine acode_skip ?_
   refine acode_seq ?_
   refine acode_region ?_
   refine Or.inl ?_
   refine And.intro (rfl) ?_
   refine Exists.intro _ (And.intro (contains_c _ _ (by omega)) ?_)
   refine And.intro (fun h => trivial) ?_
   refine Or.inl ?_
   refine And.intro (rfl) ?_
   refine Exists.intro _ (And.intro (fun h => ⟨⟨⟨h, trivial⟩, trivial⟩, contains_c _ _ (by omega)⟩) ?_)
   refine And.intro (fun h => ⟨⟨h, trivial⟩, trivial⟩) ?_
   refine And.intro (by exact fun h => h) ?_
   refine acode_ret ?_
   refine ib_eq ?_
   rw [keyOk_prog]
   rw [emp] at h17
   obtain ⟨⟨⟨h1, h2⟩, h3⟩, h4⟩ := h17
   simp only [h3, h4, decide_eq_false h1, decide_eq_false (show ¬ 32 < s.data.toList.length by omega)]
   rfl
end Q
end Ab
end Go.Proofs.YtlbainbjlibfiaaDoor
namespace Go.Proofs.YtlbainbjlibfiaaDoor
open Go.RowKit
namespace Ab
namespace Q
theorem dropWhile_nil {α : Type} {p : α → Bool} : ∀ {l : List α}, l.dropWhile p = [] ↔ l.all p = true
  | [] => by simp
  | a :: l => by
    rw [List.dropWhile_cons, List.all_cons]
    cases h : p a
    · simp
    · simp [dropWhile_nil (p := p) (l := l)]
theorem mem_tw {α : Type} {p : α → Bool} {x : α} : ∀ {l : List α}, x ∈ l.takeWhile p → p x = true
  | a :: l, h => by
    rw [List.takeWhile_cons] at h
    split at h
    · rename_i hp
      rcases List.mem_cons.1 h with rfl | h
      · exact hp
      · exact mem_tw h
    · cases h
theorem trim_nil (l : List UInt8) : Lib.trimS l [32, 9] = [] ↔ l.all blankC = true := by
  have hp : (fun c : UInt8 => ([32, 9] : List UInt8).contains c) = blankC := by
    funext c; unfold blankC; simp
  unfold Lib.trimS Lib.trimLeftS Lib.trimRightS
  rw [show (fun x : UInt8 => ([32, 9] : List UInt8).contains x) = blankC from hp, dropWhile_nil]
  refine ⟨fun h => ?_, fun h => ?_⟩
  · refine List.all_eq_true.2 fun x hx => ?_
    by_cases hb : blankC x = true
    · exact hb
    · exfalso
      have h2 : x ∈ (l.reverse.dropWhile blankC) := by
        have hs : l.reverse = l.reverse.takeWhile blankC ++ l.reverse.dropWhile blankC := (List.takeWhile_append_dropWhile).symm
        have hm : x ∈ l.reverse := List.mem_reverse.2 hx
        rw [hs] at hm
        rcases List.mem_append.1 hm with h3 | h3
        · exact absurd (mem_tw h3) hb
        · exact h3
      exact hb (List.all_eq_true.1 h x (List.mem_reverse.2 h2))
  · have : l.reverse.dropWhile blankC = [] := dropWhile_nil.2 (by rw [List.all_reverse]; exact h)
    rw [this]; rfl
def stuffL (s : List UInt8) : List UInt8 := if s.all blankC || Lib.hasPrefix s [46] then 46 :: s else s
def partsL (v : List UInt8) : List (List UInt8) := Lib.split v [10]
def firstL (key : List UInt8) (p : List UInt8) : List UInt8 := key ++ [58] ++ (if p = [] then [] else 32 :: p)
def linesL (key v : List UInt8) : List (List UInt8) := firstL key ((partsL v).headD []) :: ((partsL v).drop 1).map fun s => 32 :: stuffL s
def kindL (l : List UInt8) : Int := if 10 ∈ l then 5 else if l.all blankC = true then 1 else if Lib.hasPrefix l [35] = true then 2 else if blankL l = true then 3
  else if ((Lib.cut l [58]).2.2 && keyOk (Lib.cut l [58]).1) = true then 4 else 5
theorem cut_at {key r : List UInt8} {c : UInt8} (h : c ∉ key) : Lib.cut (key ++ c :: r) [c] = (key, r, true) := by
  have hi : Lib.index (key ++ c :: r) [c] = key.length := by
    refine Lib.index_first (by simp) ((occ_one _ _ _).2 (by simp)) fun j hj => Bool.eq_false_iff.2 fun e => ?_
    have := (occ_one _ _ _).1 e
    rw [List.getElem?_append_left hj] at this
    exact h (List.mem_of_getElem? this)
  unfold Lib.cut
  rw [hi, if_pos (by omega), Int.toNat_natCast, List.take_left]
  show (key, List.drop (key.length + 1) (key ++ c :: r), true) = _
  rw [← List.drop_drop, List.drop_left]; rfl
def valueL (l0 : List UInt8) (rest : List (List UInt8)) : List UInt8 := Lib.join (Lib.trimPrefix (Lib.cut l0 [58]).2.1 [32] :: rest.map fun s => Lib.trimPrefix (s.drop 1) [46]) [10]
def unfoldL : List (List UInt8) → (List UInt8 × List UInt8) × Int
  | [] => (([], []), 2)
  | l0 :: rest => if kindL l0 ≠ 4 ∨ (rest.any fun s => !decide (kindL s = 3)) = true then (([], []), 2) else if 1000 < (valueL l0 rest).length then (([], []), 6) else (((Lib.cut l0 [58]).1, valueL l0 rest), 0)
end Q
end Ab
end Go.Proofs.YtlbainbjlibfiaaDoor
namespace Go.Proofs.YtlbainbjlibfiaaDoor
open Go.RowKit
namespace Ab
set_option maxRecDepth 100000
namespace Q
def checkF (f : Fld) : Int := if keyOk f.1.data.toList = true then (if 1000 < f.2.size then 6 else 0) else 5
def errN (n : Int) : C := .lit (.iface 67 (.int .i64 n))
def errA (n : Int) : C := if n = 0 then .lit .nilIface else errN n
theorem errA_eq {n m : Int} (h : n = m) : A.one (errA n) = A.one (errA m) := by rw [h]
theorem check_c (f : Fld) (hk : f.1.size ≤ 1000000000) : ACall Tryd.prog 39 [.agg (toL rFld f)] (.one (errA (checkF f))) := by
  refine acall_of (rs := [2]) Tryd.func39 rfl rfl rfl teOk rfl ?_
  refine acode_seq ?_
  refine acode_region ?_
  refine acode_seq ?_
  refine acode_block ?_
  refine acode_seq ?_
  refine acode_region ?_
  refine Or.inl ?_
  refine And.intro (rfl) ?_
  refine Exists.intro _ (And.intro (key_c _ hk) ?_)
  refine acode_cond rfl (fun h3 => ?_) (fun h3 => ?_)
  ·try simp only [Bool.not_eq_true'] at h3
   try simp only [Int.toNat_natCast, dflt_sl, dflt_st, dflt_str, dflt_int, dflt_bool] at h3
   refine acode_seq ?_
   refine acode_region ?_
   refine acode_ret ?_
   exact errA_eq (n := 5) (by unfold checkF; rw [if_neg (by rw [h3]; decide)])
  ·try simp only [Bool.not_eq_false'] at h3
   try simp only [Int.toNat_natCast, dflt_sl, dflt_st, dflt_str, dflt_int, dflt_bool] at h3
   refine acode_seq ?_
   refine acode_region ?_
   refine acode_cond rfl (fun h9 => ?_) (fun h9 => ?_)
   ·try simp only [decide_eq_true_eq] at h9
    try simp only [Int.toNat_natCast, dflt_sl, dflt_st, dflt_str, dflt_int, dflt_bool] at h9
    refine acode_seq ?_
    refine acode_region ?_
    refine acode_ret ?_
    exact errA_eq (n := 6) (by unfold checkF; rw [if_pos h3, if_pos (by omega)])
   ·try simp only [decide_eq_false_iff_not, Int.not_lt] at h9
    try simp only [Int.toNat_natCast, dflt_sl, dflt_st, dflt_str, dflt_int, dflt_bool] at h9
    refine acode_skip ?_
    refine acode_seq ?_
    refine acode_region ?_
    refine acode_ret ?_
    exact errA_eq (n := 0) (by unfold checkF; rw [if_pos h3, if_neg (by omega)])
theorem check_v (f : Fld) (n : Int) (hk : f.1.size ≤ 1000000000) (h : checkF f = n) : ACall Tryd.prog 39 [.agg (toL rFld f)] (.one (errA n)) := by
  subst h; exact check_c f hk
theorem cut_v (s p : ByteArray) (l : List UInt8) (c : List UInt8 × List UInt8 × Bool) (hl : p.data.toList = l) (hc : Lib.cut s.data.toList l = c) (hs : s.size < 4294967281) : ACall Tryd.prog 51 [is s, is p] (.tup [(false, [.lit (.string (bytes c.1))]), (false, [.lit (.string (bytes c.2.1))]), (false, [.lit (.bool c.2.2)])]) := by
  subst hl hc; exact cut_c s p hs
theorem cut_len (l sep : List UInt8) : (Lib.cut l sep).1.length ≤ l.length ∧ (Lib.cut l sep).2.1.length ≤ l.length := by
  unfold Lib.cut
  split
  · simp only [List.length_take, List.length_drop]; omega
  · exact ⟨Nat.le_refl _, Nat.zero_le _⟩
theorem kind_c (s : ByteArray) (hs : s.size ≤ 1000000000) : ACall Tryd.prog 52 [is s] (ii .i64 (kindL s.data.toList)) := by
  have hz := size_list s
  obtain ⟨c, hc⟩ : ∃ c, Lib.cut s.data.toList [58] = c := ⟨_, rfl⟩
  have hcl : (bytes c.1).size ≤ 1000000000 := by rw [bytes_size, ← hc]; have := (cut_len s.data.toList [58]).1; omega
  have he : (⟨(Lib.trimS s.data.toList [32, 9]).toArray⟩ : ByteArray) = ⟨#[]⟩ ↔ s.data.toList.all blankC = true := by
    rw [emp, ← trim_nil]
    show (bytes (Lib.trimS s.data.toList [32, 9])).data.toList.length = 0 ↔ _
    rw [bytes_list]; exact ⟨List.eq_nil_of_length_eq_zero, fun h => by rw [h]; rfl⟩
  have hcon : Lib.contains s.data.toList [10] = decide (10 ∈ s.data.toList) := contains_one _ _
  refine acall_of (rs := [2]) Tryd.func52 rfl rfl rfl teOk rfl ?_
  refine acode_seq ?_
  refine acode_region ?_
  refine acode_seq ?_
  refine acode_block ?_
  refine acode_seq ?_
  refine acode_region ?_
  refine Or.inl ?_
  refine And.intro (rfl) ?_
  refine Exists.intro _ (And.intro (contains_c _ _ (by omega)) ?_)
  refine acode_cond rfl (fun h6 => ?_) (fun h6 => ?_)
  ·skip
   have hm : 10 ∈ s.data.toList := of_decide_eq_true (hcon ▸ h6)
   refine acode_seq ?_
   refine acode_region ?_
   refine acode_ret ?_
   refine ii_eq ?_
   unfold kindL
   rw [if_pos hm]
  ·skip
   have hm : 10 ∉ s.data.toList := of_decide_eq_false (hcon ▸ h6)
   refine acode_seq ?_
   refine acode_region ?_
   refine Or.inl ?_
   refine And.intro (rfl) ?_
   refine Exists.intro _ (And.intro (trimS_c _ _ (by decide) (by decide) (by omega)) ?_)
   refine acode_cond rfl (fun h9 => ?_) (fun h9 => ?_)
   ·try simp only [decide_eq_true_eq] at h9
    try simp only [Int.toNat_natCast, dflt_sl, dflt_st, dflt_str, dflt_int, dflt_bool] at h9
    rw [he] at h9
    refine acode_seq ?_
    refine acode_region ?_
    refine acode_ret ?_
    refine ii_eq ?_
    unfold kindL
    rw [if_neg hm, if_pos h9]
   ·try simp only [decide_eq_false_iff_not] at h9
    try simp only [Int.toNat_natCast, dflt_sl, dflt_st, dflt_str, dflt_int, dflt_bool] at h9
    rw [he] at h9
    refine acode_seq ?_
    refine acode_region ?_
    refine Or.inl ?_
    refine And.intro (rfl) ?_
    refine Exists.intro _ (And.intro (hasPrefix_c _ _) ?_)
    refine acode_cond rfl (fun h13 => ?_) (fun h13 => ?_)
    ·skip
     refine acode_seq ?_
     refine acode_region ?_
     refine acode_ret ?_
     refine ii_eq ?_
     unfold kindL
     rw [if_neg hm, if_neg h9, if_pos h13]
    ·skip
     refine acode_seq ?_
     refine acode_region ?_
     refine Or.inl ?_
     refine And.intro (rfl) ?_
     refine Exists.intro _ (And.intro (blank_c _ hs) ?_)
     refine acode_cond rfl (fun h16 => ?_) (fun h16 => ?_)
     ·try simp only [decide_eq_true_eq, decide_eq_false_iff_not, Bool.and_eq_true, Bool.not_eq_true', Bool.not_eq_false', Bool.or_eq_false_iff, Bool.or_eq_true, Bool.and_eq_false_iff, Int.not_lt, Int.not_le] at h16
      try simp only [Int.toNat_natCast, dflt_sl, dflt_st, dflt_str, dflt_int, dflt_bool] at h16
      refine acode_seq ?_
      refine acode_region ?_
      refine acode_ret ?_
      refine ii_eq ?_
      unfold kindL
      rw [if_neg hm, if_neg h9, if_neg (by rw [Bool.not_eq_true]; exact h13), if_pos h16]
     ·try simp only [decide_eq_true_eq, decide_eq_false_iff_not, Bool.and_eq_true, Bool.not_eq_true', Bool.not_eq_false', Bool.or_eq_false_iff, Bool.or_eq_true, Bool.and_eq_false_iff, Int.not_lt, Int.not_le] at h16
      try simp only [Int.toNat_natCast, dflt_sl, dflt_st, dflt_str, dflt_int, dflt_bool] at h16
      refine acode_skip ?_
      refine acode_seq ?_
      refine acode_seq ?_
      refine acode_region ?_
      refine Or.inl ?_
      refine And.intro (rfl) ?_
      refine Exists.intro _ (And.intro (cut_v _ _ [58] c rfl hc (by omega)) ?_)
      refine acode_seq ?_
      refine acode_region ?_
      refine And.intro (fun h => trivial) ?_
      refine Or.inl ?_
      refine And.intro (rfl) ?_
      refine Exists.intro _ (And.intro (fun h => ⟨⟨⟨h, trivial⟩, trivial⟩, key_c _ hcl⟩) ?_)
      refine And.intro (by exact fun h => h) ?_
      refine acode_cond rfl (fun h29 => ?_) (fun h29 => ?_)
      ·try simp only [Bool.and_eq_true] at h29
       try simp only [Int.toNat_natCast, dflt_sl, dflt_st, dflt_str, dflt_int, dflt_bool] at h29
       refine acode_seq ?_
       refine acode_region ?_
       refine acode_ret ?_
       refine ii_eq ?_
       unfold kindL
       rw [if_neg hm, if_neg h9, if_neg (by rw [Bool.not_eq_true]; exact h13), if_neg (by rw [Bool.not_eq_true]; exact h16), hc, if_pos (by rw [Bool.and_eq_true]; rw [bytes_list] at h29; exact h29)]
      ·try simp only [Bool.and_eq_false_iff] at h29
       try simp only [Int.toNat_natCast, dflt_sl, dflt_st, dflt_str, dflt_int, dflt_bool] at h29
       refine acode_skip ?_
       refine acode_seq ?_
       refine acode_region ?_
       refine acode_ret ?_
       refine ii_eq ?_
       unfold kindL
       rw [if_neg hm, if_neg h9, if_neg (by rw [Bool.not_eq_true]; exact h13), if_neg (by rw [Bool.not_eq_true]; exact h16), hc, if_neg (by rw [Bool.not_eq_true, Bool.and_eq_false_iff]; rw [bytes_list] at h29; exact h29)]
def cutL (l : List UInt8) : List UInt8 × List UInt8 × Bool := if kindL l = 4 then Lib.cut l [58] else ([], [], false)
def cutA (c : List UInt8 × List UInt8 × Bool) : A := .tup [(false, [.lit (.string (bytes c.1))]), (false, [.lit (.string (bytes c.2.1))]), (false, [.lit (.bool c.2.2)])]
theorem cutA_eq {c c' : List UInt8 × List UInt8 × Bool} (h : c = c') : cutA c = cutA c' := by rw [h]
theorem lcut_c (s : ByteArray) (hs : s.size ≤ 1000000000) : ACall Tryd.prog 83 [is s] (cutA (cutL s.data.toList)) := by
  refine acall_of (rs := [2, 3, 4]) Tryd.func83 rfl rfl rfl teOk rfl ?_
  refine acode_seq ?_
  refine acode_region ?_
  refine acode_seq ?_
  refine acode_seq ?_
  refine acode_region ?_
  refine Or.inl ?_
  refine And.intro (rfl) ?_
  refine Exists.intro _ (And.intro (kind_c s hs) ?_)
  refine acode_cond rfl (fun h7 => ?_) (fun h7 => ?_)
  ·try simp only [decide_eq_false_iff_not, Bool.not_eq_true'] at h7
   try simp only [Int.toNat_natCast, dflt_sl, dflt_st, dflt_str, dflt_int, dflt_bool] at h7
   refine acode_seq ?_
   refine acode_region ?_
   refine acode_ret ?_
   exact cutA_eq (c := ([], [], false)) (by unfold cutL; rw [if_neg h7])
  ·try simp only [decide_eq_true_eq, Bool.not_eq_false'] at h7
   try simp only [Int.toNat_natCast, dflt_sl, dflt_st, dflt_str, dflt_int, dflt_bool] at h7
   refine acode_skip ?_
   refine acode_seq ?_
   refine acode_region ?_
   refine Or.inl ?_
   refine And.intro (rfl) ?_
   refine Exists.intro _ (And.intro (cut_v _ _ [58] _ rfl rfl (by omega)) ?_)
   refine acode_ret ?_
   exact cutA_eq (c := Lib.cut s.data.toList [58]) (by unfold cutL; rw [if_pos h7])
end Q
end Ab
end Go.Proofs.YtlbainbjlibfiaaDoor
namespace Go.Proofs.YtlbainbjlibfiaaDoor
open Go.RowKit
namespace Ab
set_option maxRecDepth 100000
namespace Q
def refCutL (l : List UInt8) : List UInt8 × List UInt8 × Bool := if 10 ∈ l then ([], [], false) else if ((Lib.cut l [58]).2.2 && keyOk (Lib.cut l [58]).1) = true then Lib.cut l [58] else ([], [], false)
theorem cut_none {l : List UInt8} {c : UInt8} (h : c ∉ l) : Lib.cut l [c] = (l, [], false) := by
  have hi : Lib.index l [c] = -1 := Lib.index_none fun j _ => Bool.eq_false_iff.2 fun e => h (List.mem_of_getElem? ((occ_one _ _ _).1 e))
  unfold Lib.cut
  rw [hi, if_neg (by omega)]
end Q
end Ab
end Go.Proofs.YtlbainbjlibfiaaDoor
namespace Go.Proofs.YtlbainbjlibfiaaDoor
open Go.RowKit
namespace Ab
set_option maxRecDepth 100000
namespace Q
end Q
end Ab
end Go.Proofs.YtlbainbjlibfiaaDoor
namespace Go.Proofs.YtlbainbjlibfiaaDoor
open Go.RowKit
namespace Ab
set_option maxRecDepth 100000
namespace Q
def lineB (key v : ByteArray) : List ByteArray := (linesL key.data.toList v.data.toList).map bytes
def linesA (f : Fld) : A := if checkF f = 0 then .tup [(false, [.sl .str (lineB f.1 f.2)]), (false, [.lit .nilIface])] else .tup [(false, [.sl .str []]), (false, [errN (checkF f)])]
end Q
end Ab
end Go.Proofs.YtlbainbjlibfiaaDoor
namespace Go.Proofs.YtlbainbjlibfiaaDoor
open Go.RowKit
namespace Ab
set_option maxRecDepth 100000
namespace Q
def endL (ls : List (List UInt8)) : List UInt8 := ls.flatMap fun s => s ++ [10]
def textL (f : Fld) : List UInt8 := endL (linesL f.1.data.toList f.2.data.toList)
def foldL (l : List Fld) : List UInt8 := l.flatMap textL
def badF (l : List Fld) : Int := match l with
  | [] => 0
  | f :: r => if checkF f = 0 then badF r else checkF f
def foldA (l : List Fld) : A := if badF l = 0 then .tup [(false, [.lit (.string (bytes (foldL l)))]), (false, [.lit .nilIface])] else .tup [(false, [.lit (.string ⟨#[]⟩)]), (false, [errN (badF l)])]
end Q
end Ab
end Go.Proofs.YtlbainbjlibfiaaDoor
namespace Go.Proofs.YtlbainbjlibfiaaDoor
open Go.RowKit
namespace Ab
set_option maxRecDepth 100000
namespace Q
end Q
end Ab
end Go.Proofs.YtlbainbjlibfiaaDoor
namespace Go.Proofs.YtlbainbjlibfiaaDoor
open Go.RowKit
namespace Ab
set_option maxRecDepth 100000
namespace Q
def partB (s : ByteArray) : List ByteArray := (partsL s.data.toList).map bytes
end Q
end Ab
end Go.Proofs.YtlbainbjlibfiaaDoor
namespace Go.Proofs.YtlbainbjlibfiaaDoor
open Go.RowKit
namespace Ab
set_option maxRecDepth 100000
namespace Q
theorem copies_c (l : List Fld) (hn : l.length ≤ 1000) : ACall Tryd.prog 15 [.one (.sl rFld l)] (.one (.sl rFld l)) := by
  refine acall_of (rs := [2]) Tryd.func15 rfl rfl rfl teOk rfl ?_
  refine acode_seq ?_
  refine acode_region ?_
  refine acode_seq ?_
  refine acode_region ?_
  refine And.intro (by first | exact app_le (by first | omega | (simp only [List.length_nil]; omega) | (simp; omega)) (by decide) | omega | assumption | decide | (simp only [Int.toNat_natCast, dflt_sl, dflt_st, dflt_str, dflt_int, dflt_bool]; omega) | (simp <;> omega)) ?_
  refine acode_ret ?_
  exact sl_eq (by rfl)
theorem list_ext_take {α : Type} {a b : List α} {i : Nat} (d : α) (ha : i < a.length) (hb : i < b.length) (h : a.take i = b.take i) (he : a.getD i d = b.getD i d) : a.take (i + 1) = b.take (i + 1) := by
  rw [← take_snoc d ha, ← take_snoc d hb, h, he]
theorem ne_at {α : Type} {a b : List α} {i : Nat} (d : α) (he : a.getD i d ≠ b.getD i d) : ¬ a = b := fun e => he (by rw [e])
theorem fields_c (a b : List Fld) : ACall Tryd.prog 29 [.one (.sl rFld a), .one (.sl rFld b)] (ib (decide (a = b))) := by
  refine acall_of (rs := [4]) Tryd.func29 rfl rfl rfl teOk rfl ?_
  refine acode_seq ?_
  refine acode_region ?_
  refine acode_seq ?_
  refine acode_seq ?_
  refine acode_region ?_
  intro l1_1
  try simp only [Int.toNat_natCast, dflt_sl, dflt_st, dflt_str, dflt_int, dflt_bool] at l1_1
  intro l1_3
  try simp only [Int.toNat_natCast, dflt_sl, dflt_st, dflt_str, dflt_int, dflt_bool] at l1_3
  refine acode_cond rfl (fun h10 => ?_) (fun h10 => ?_)
  ·try simp only [decide_eq_false_iff_not, Bool.not_eq_true'] at h10
   try simp only [Int.toNat_natCast, dflt_sl, dflt_st, dflt_str, dflt_int, dflt_bool] at h10
   refine acode_seq ?_
   refine acode_region ?_
   refine acode_ret ?_
   exact ib_eq (decide_eq_false (fun e => by rw [e] at h10; omega)).symm
  ·try simp only [decide_eq_true_eq, Bool.not_eq_false'] at h10
   try simp only [Int.toNat_natCast, dflt_sl, dflt_st, dflt_str, dflt_int, dflt_bool] at h10
   refine acode_skip ?_
   refine acode_seq ?_
   refine acode_seq ?_
   refine acode_region ?_
   intro l3_1
   try simp only [Int.toNat_natCast, dflt_sl, dflt_st, dflt_str, dflt_int, dflt_bool] at l3_1
   refine acode_block ?_
   refine acode_loopP (fun (i : Nat) => i ≤ a.length ∧ a.take i = b.take i) (fun (i : Nat) => [(0, .one (.sl rFld a)), (1, .one (.sl rFld b)), (12, ii .i64 a.length), (13, ii .i64 i)]) (fun (i : Nat) => []) 0 (fun (i : Nat) => a.length - i) 0 (⟨Nat.zero_le _, by simp⟩) (le_of ⟨rfl, rfl, rfl, rfl⟩ trivial rfl) ?_
   intro i hI0
   obtain ⟨hi, ht⟩ := hI0
   refine acode_seq ?_
   refine acode_region ?_
   refine acode_seq ?_
   refine acode_cond rfl (fun h14 => ?_) (fun h14 => ?_)
   ·try simp only [decide_eq_true_eq] at h14
    try simp only [Int.toNat_natCast, dflt_sl, dflt_st, dflt_str, dflt_int, dflt_bool] at h14
    have hla : i < a.length := by omega
    have hlb : i < b.length := by omega
    refine acode_skip ?_
    refine acode_seq ?_
    refine acode_block ?_
    refine acode_seq ?_
    refine acode_region ?_
    refine acode_seq ?_
    refine acode_draw rfl (by kernel_rfl) ?_
    refine And.intro (by first | omega | assumption | decide | (simp only [Int.toNat_natCast, dflt_sl, dflt_st, dflt_str, dflt_int, dflt_bool]; omega) | (simp <;> omega)) ?_
    refine And.intro (by first | omega | assumption | decide | (simp only [Int.toNat_natCast, dflt_sl, dflt_st, dflt_str, dflt_int, dflt_bool]; omega) | (simp <;> omega)) ?_
    refine And.intro (by rfl) ?_
    refine acode_cond rfl (fun h24 => ?_) (fun h24 => ?_)
    ·try simp only [decide_eq_false_iff_not, Bool.not_eq_true', Bool.and_eq_false_iff] at h24
     try simp only [Int.toNat_natCast, dflt_st, dflt_str] at h24
     refine acode_seq ?_
     refine acode_region ?_
     refine acode_ret ?_
     exact ib_eq (decide_eq_false (ne_at (i := i) (ByteArray.empty, ByteArray.empty) (fun e => h24.elim (fun h => h (congrArg Prod.fst e)) (fun h => h (congrArg Prod.snd e))))).symm
    ·try simp only [decide_eq_true_eq, Bool.and_eq_true, Bool.not_eq_false'] at h24
     try simp only [Int.toNat_natCast, dflt_st, dflt_str] at h24
     refine acode_skip ?_
     refine acode_region ?_
     refine And.intro (by first | omega | assumption | decide | (simp only [Int.toNat_natCast, dflt_sl, dflt_st, dflt_str, dflt_int, dflt_bool]; omega) | (simp <;> omega)) ?_
     exact ⟨i + 1, ⟨by omega, list_ext_take (ByteArray.empty, ByteArray.empty) hla hlb ht (Prod.ext h24.1 h24.2)⟩, by first | omega | (simp <;> omega), le_of ⟨rfl, rfl, rfl, (ii_eq (by omega))⟩ trivial rfl⟩
   ·try simp only [decide_eq_false_iff_not, Int.not_lt] at h14
    try simp only [Int.toNat_natCast, dflt_sl, dflt_st, dflt_str, dflt_int, dflt_bool] at h14
    refine acode_exit ?_
    refine acode_seq ?_
    refine acode_region ?_
    refine acode_ret ?_
    exact ib_eq (decide_eq_true (by rw [List.take_of_length_le (by omega), List.take_of_length_le (by omega)] at ht; exact ht)).symm
abbrev rFault : Rd (Int × Value) := .st (.int .i64) .raw
def errF (at_ n : Int) : C := .ifc 69 (.addr rFault (at_, .iface 67 (.int .i64 n)))
end Q
end Ab
end Go.Proofs.YtlbainbjlibfiaaDoor
namespace Go.Proofs.YtlbainbjlibfiaaDoor
open Go.RowKit
namespace Ab
set_option maxRecDepth 100000
namespace Q
def LinesOk (l : List ByteArray) : Prop := l.length ≤ 1000000 ∧ (l.map (·.size)).sum ≤ 100000000
theorem sum_mem {l : List ByteArray} {s : ByteArray} (h : s ∈ l) : s.size ≤ (l.map (·.size)).sum := by
  induction l with
  | nil => cases h
  | cons a r ih =>
    rw [List.map_cons, List.sum_cons]
    rcases List.mem_cons.1 h with rfl | h
    · omega
    · have := ih h; omega
def unfA (l : List ByteArray) : A := if (unfoldL (l.map ls)).2 = 0 then .tup [(true, [.lit (.string (bytes (unfoldL (l.map ls)).1.1)), .lit (.string (bytes (unfoldL (l.map ls)).1.2))]), (false, [.lit .nilIface])]
  else .tup [(true, [.lit (.string ⟨#[]⟩), .lit (.string ⟨#[]⟩)]), (false, [errN (unfoldL (l.map ls)).2])]
theorem unfA_bad {l : List ByteArray} {n : Int} (h : (unfoldL (l.map ls)).2 = n) (hn : n ≠ 0) : unfA l = .tup [(true, [.lit (.string ⟨#[]⟩), .lit (.string ⟨#[]⟩)]), (false, [errN n])] := by
  unfold unfA; rw [if_neg (by rw [h]; exact hn), h]
theorem unfA_ok {l : List ByteArray} {k v : List UInt8} (h : unfoldL (l.map ls) = ((k, v), 0)) : unfA l = .tup [(true, [.lit (.string (bytes k)), .lit (.string (bytes v))]), (false, [.lit .nilIface])] := by
  unfold unfA; rw [if_pos (by rw [h]), h]
theorem trimP_len (s p : List UInt8) : (Lib.trimPrefix s p).length ≤ s.length := by
  unfold Lib.trimPrefix; split
  · rw [List.length_drop]; omega
  · exact Nat.le_refl _
theorem joinL_len (c : UInt8) : ∀ l : List (List UInt8), (Lib.join l [c]).length ≤ (l.map (·.length)).sum + l.length
  | [] => by simp [Lib.join]
  | [a] => by rw [Lib.join_one]; simp
  | a :: b :: r => by
    have := joinL_len c (b :: r)
    rw [join_two]
    simp only [List.length_append, List.length_cons, List.length_nil, List.map_cons, List.sum_cons] at this ⊢
    omega
theorem map_sum_le {α : Type} (f g : α → Nat) : ∀ l : List α, (∀ x ∈ l, f x ≤ g x) → (l.map f).sum ≤ (l.map g).sum
  | [], _ => Nat.le_refl _
  | a :: r, h => by
    simp only [List.map_cons, List.sum_cons]
    have := h a (by simp)
    have := map_sum_le f g r fun x hx => h x (by simp [hx])
    omega
def moreB (s : ByteArray) : ByteArray := bytes (Lib.trimPrefix (s.data.toList.drop 1) [46])
def firstB (s : ByteArray) : ByteArray := bytes (Lib.trimPrefix (Lib.cut s.data.toList [58]).2.1 [32])
theorem value_join (s : ByteArray) (r : List ByteArray) : Lib.join ((firstB s :: r.map moreB).map (·.data.toList)) [10] = valueL (ls s) (r.map ls) := by
  unfold valueL firstB moreB
  rw [List.map_cons, bytes_list, List.map_map, List.map_map]
  congr 2
theorem value_len (s : ByteArray) (r : List ByteArray) : (valueL (ls s) (r.map ls)).length ≤ s.size + (r.map (·.size)).sum + r.length + 1 := by
  unfold valueL
  refine Nat.le_trans (joinL_len 10 _) ?_
  rw [List.map_cons, List.sum_cons, List.length_cons, List.map_map, List.map_map, List.length_map, List.length_map]
  have h1 := trimP_len (Lib.cut (ls s) [58]).2.1 [32]
  have h2 := (cut_len (ls s) [58]).2
  have h3 : s.size = (ls s).length := size_list s
  have h4 := map_sum_le (((fun l : List UInt8 => l.length) ∘ (fun s : List UInt8 => Lib.trimPrefix (s.drop 1) [46])) ∘ ls) (fun s : ByteArray => s.size) r fun x _ => by
    have h5 := trimP_len ((ls x).drop 1) [46]
    have h6 : x.size = (ls x).length := size_list x
    simp only [Function.comp]
    rw [List.length_drop] at h5
    omega
  omega
theorem cutL_ok {l : List UInt8} (h : (cutL l).2.2 = true) : kindL l = 4 ∧ cutL l = Lib.cut l [58] ∧ keyOk (Lib.cut l [58]).1 = true := by
  unfold cutL at h ⊢
  split
  · rename_i h4
    refine ⟨h4, rfl, ?_⟩
    have := h4
    unfold kindL at this
    split at this
    · cases this
    · split at this
      · cases this
      · split at this
        · cases this
        · split at this
          · cases this
          · split at this
            · rename_i h5; rw [Bool.and_eq_true] at h5; exact h5.2
            · cases this
  · rename_i h4; rw [if_neg h4] at h; cases h
theorem cutL_no {l : List UInt8} (h : (cutL l).2.2 = false) : kindL l ≠ 4 := fun h4 => by
  unfold cutL at h
  rw [if_pos h4] at h
  unfold kindL at h4
  split at h4
  · cases h4
  · split at h4
    · cases h4
    · split at h4
      · cases h4
      · split at h4
        · cases h4
        · split at h4
          · rename_i h5; rw [Bool.and_eq_true] at h5; rw [h] at h5; cases h5.1
          · cases h4
theorem kind3_pos {l : List UInt8} (h : kindL l = 3) : 1 ≤ l.length := by
  cases l with
  | nil => cases h
  | cons a r => simp
theorem unf_form {s : ByteArray} {r : List ByteArray} (h : kindL (ls s) ≠ 4 ∨ ∃ x ∈ r, kindL (ls x) ≠ 3) : (unfoldL ((s :: r).map ls)).2 = 2 := by
  rw [List.map_cons, unfoldL, if_pos]
  rcases h with h | ⟨x, hx, h⟩
  · exact .inl h
  · exact .inr (List.any_eq_true.2 ⟨ls x, List.mem_map.2 ⟨x, hx, rfl⟩, by rw [decide_eq_false h]; rfl⟩)
theorem unf_good {s : ByteArray} {r : List ByteArray} (h : kindL (ls s) = 4) (hr : ∀ x ∈ r, kindL (ls x) = 3) : unfoldL ((s :: r).map ls) = if 1000 < (valueL (ls s) (r.map ls)).length then (([], []), 6) else (((Lib.cut (ls s) [58]).1, valueL (ls s) (r.map ls)), 0) := by
  rw [List.map_cons, unfoldL, if_neg]
  rintro (h1 | h1)
  · exact h1 h
  · obtain ⟨x, hx, h2⟩ := List.any_eq_true.1 h1
    obtain ⟨y, hy, rfl⟩ := List.mem_map.1 hx
    rw [hr y hy] at h2
    exact absurd h2 (by decide)
theorem lcut_v (s : ByteArray) (c : List UInt8 × List UInt8 × Bool) (hc : cutL s.data.toList = c) (hs : s.size ≤ 1000000000) : ACall Tryd.prog 83 [is s] (cutA c) := by
  subst hc; exact lcut_c s hs
theorem drop_size (s : ByteArray) (n : Nat) : (s.extract n s.size).data.toList = s.data.toList.drop n := by
  rw [extract_ls, List.take_of_length_le (by rw [List.length_drop, size_list]; omega)]
theorem more_eq (s : ByteArray) : (⟨(Lib.trimPrefix (s.extract (Int.toNat 1) (s.size : Int).toNat).data.toList ({ data := #[46] } : ByteArray).data.toList).toArray⟩ : ByteArray) = moreB s := by
  rw [Int.toNat_natCast, show Int.toNat 1 = 1 from rfl, drop_size]; rfl
theorem join_v (s : ByteArray) (r : List ByteArray) (h : LinesOk (s :: r)) : ACall Tryd.prog 44 [.one (.sl .str (firstB s :: r.map moreB)), is ⟨#[10]⟩] (is (bytes (valueL (ls s) (r.map ls)))) := by
  have h1 := h.1
  have h2 := h.2
  simp only [List.length_cons, List.map_cons, List.sum_cons] at h1 h2
  have hv := value_len s r
  have := join_c (firstB s :: r.map moreB) ⟨#[10]⟩ (by simp only [List.length_cons, List.length_map]; omega) (by rw [show (⟨#[10]⟩ : ByteArray).data.toList = [10] from rfl, value_join]; omega)
  rw [show (⟨#[10]⟩ : ByteArray).data.toList = [10] from rfl, value_join] at this
  exact this
theorem check_kv (k v : List UInt8) (hk : keyOk k = true) : checkF (bytes k, bytes v) = if 1000 < v.length then 6 else 0 := by
  unfold checkF
  rw [if_pos (by rw [bytes_list]; exact hk), bytes_size]
theorem unfold_c (s0 : ByteArray) (r : List ByteArray) (hl : LinesOk (s0 :: r)) : ACall Tryd.prog 69 [.one (.sl .str (s0 :: r))] (unfA (s0 :: r)) := by
  obtain ⟨l, hl0⟩ : ∃ l, s0 :: r = l := ⟨_, rfl⟩
  rw [hl0] at hl ⊢
  have hsz : ∀ x ∈ l, x.size ≤ 100000000 := fun x hx => Nat.le_trans (sum_mem hx) hl.2
  have hll := hl.1
  have hd : l.drop 1 = r := by rw [← hl0]; rfl
  have h0 : l.getD 0 ByteArray.empty = s0 := by rw [← hl0]; rfl
  have hs0 : s0.size ≤ 100000000 := hsz _ (by rw [← hl0]; simp)
  obtain ⟨c, hc⟩ : ∃ c, cutL s0.data.toList = c := ⟨_, rfl⟩
  have hlen : l.length = r.length + 1 := by rw [← hl0]; rfl
  have hdl : (l.drop 1).length = l.length - 1 := List.length_drop
  refine acall_ofc (rs := [.cell 2 57, .tmp 3]) Tryd.func69 rfl rfl rfl teOk rfl ?_
  refine acode_seq ?_
  refine acode_region ?_
  refine acode_seq ?_
  refine acode_seq ?_
  refine acode_region ?_
  intro l1_1
  try simp only [Int.toNat_natCast, dflt_sl, dflt_st, dflt_str, dflt_int, dflt_bool] at l1_1
  refine acode_cond rfl (fun h14 => ?_) (fun h14 => ?_)
  ·try simp only [decide_eq_true_eq] at h14
   try simp only [Int.toNat_natCast, dflt_sl, dflt_st, dflt_str, dflt_int, dflt_bool] at h14
   exfalso; omega
  ·try simp only [decide_eq_false_iff_not] at h14
   try simp only [Int.toNat_natCast, dflt_sl, dflt_st, dflt_str, dflt_int, dflt_bool] at h14
   refine acode_skip ?_
   refine acode_seq ?_
   refine acode_region ?_
   refine And.intro (by first | omega | assumption | decide | (simp only [Int.toNat_natCast, dflt_sl, dflt_st, dflt_str, dflt_int, dflt_bool]; omega) | (simp <;> omega)) ?_
   refine Or.inl ?_
   refine And.intro (rfl) ?_
   refine Exists.intro _ (And.intro ((lcut_v (l.getD 0 ByteArray.empty) c (by rw [h0]; exact hc) (by rw [h0]; omega))) ?_)
   refine acode_seq ?_
   refine acode_seq ?_
   refine acode_region ?_
   refine acode_cond rfl (fun h26 => ?_) (fun h26 => ?_)
   ·try simp only [Bool.not_eq_true'] at h26
    try simp only [Int.toNat_natCast, dflt_sl, dflt_st, dflt_str, dflt_int, dflt_bool] at h26
    refine acode_seq ?_
    refine acode_region ?_
    refine acode_ret ?_
    rw [unfA_bad (n := 2) (by rw [← hl0]; exact unf_form (.inl (cutL_no (by rw [show ls s0 = s0.data.toList from rfl, hc]; exact h26)))) (by decide)]
    rfl
   ·try simp only [Bool.not_eq_false'] at h26
    try simp only [Int.toNat_natCast, dflt_sl, dflt_st, dflt_str, dflt_int, dflt_bool] at h26
    have hco : (cutL s0.data.toList).2.2 = true := by rw [hc]; exact h26
    obtain ⟨hk4, hcc, hko⟩ := cutL_ok hco
    have hcl : c = Lib.cut s0.data.toList [58] := by rw [← hc, hcc]
    refine acode_skip ?_
    refine acode_seq ?_
    refine acode_region ?_
    refine Or.inl ?_
    refine And.intro (rfl) ?_
    refine Exists.intro _ (And.intro (trimPrefix_c _ _) ?_)
    refine acode_seq ?_
    refine acode_seq ?_
    refine acode_region ?_
    refine And.intro (by first | omega | assumption | decide | (simp only [Int.toNat_natCast, dflt_sl, dflt_st, dflt_str, dflt_int, dflt_bool]; omega) | (simp <;> omega)) ?_
    intro l7_2
    try simp only [Int.toNat_natCast, dflt_sl, dflt_st, dflt_str, dflt_int, dflt_bool] at l7_2
    refine acode_block ?_
    refine acode_loopP (fun (i : Nat) => i ≤ (l.drop 1).length ∧ ∀ x ∈ (l.drop 1).take i, kindL (ls x) = 3) (fun (i : Nat) => [(2, .one (.own 0 0)), (4, is (bytes c.1)), (7, .one (.vec 1)), (33, .one (.sl .str (l.drop 1))), (34, ii .i64 (l.drop 1).length), (35, ii .i64 i)]) (fun (i : Nat) => [(0, .box 57 [.lit (.string ⟨#[]⟩), .lit (.string ⟨#[]⟩)]), (1, .vec 9 .str (firstB s0 :: ((l.drop 1).take i).map moreB))]) 2 (fun (i : Nat) => (l.drop 1).length - i) 0 (⟨Nat.zero_le _, by simp⟩) (le_of ⟨rfl, rfl, rfl, rfl, rfl, rfl⟩ ⟨rfl, (vec_eq (by rw [List.take_zero, List.map_nil, bytes_list, hcl]; rfl))⟩ rfl) ?_
    intro i hI0
    obtain ⟨hi, hall⟩ := hI0
    refine acode_seq ?_
    refine acode_region ?_
    refine acode_seq ?_
    refine acode_cond rfl (fun h36 => ?_) (fun h36 => ?_)
    ·try simp only [decide_eq_true_eq] at h36
     try simp only [Int.toNat_natCast, dflt_sl, dflt_st, dflt_str, dflt_int, dflt_bool] at h36
     have hlt : i < (l.drop 1).length := by omega
     have hm := List.mem_of_mem_drop (getD_mem hlt ByteArray.empty)
     have hms := hsz _ hm
     refine acode_skip ?_
     refine acode_seq ?_
     refine acode_block ?_
     refine acode_seq ?_
     refine acode_region ?_
     refine And.intro (by first | omega | assumption | decide | (simp only [Int.toNat_natCast, dflt_sl, dflt_st, dflt_str, dflt_int, dflt_bool]; omega) | (simp <;> omega)) ?_
     refine acode_seq ?_
     refine acode_seq ?_
     refine acode_region ?_
     refine Or.inl ?_
     refine And.intro (rfl) ?_
     refine Exists.intro _ (And.intro (kind_c ((l.drop 1).getD i ByteArray.empty) (by omega)) ?_)
     refine acode_cond rfl (fun h41 => ?_) (fun h41 => ?_)
     ·try simp only [decide_eq_false_iff_not, Bool.not_eq_true'] at h41
      try simp only [Int.toNat_natCast, dflt_sl, dflt_st, dflt_str, dflt_int, dflt_bool] at h41
      refine acode_seq ?_
      refine acode_region ?_
      refine acode_ret ?_
      rw [unfA_bad (n := 2) (by rw [← hl0]; exact unf_form (.inr ⟨_, by rw [← hd]; exact getD_mem hlt ByteArray.empty, h41⟩)) (by decide)]
      rfl
     ·try simp only [decide_eq_true_eq, Bool.not_eq_false'] at h41
      try simp only [Int.toNat_natCast, dflt_sl, dflt_st, dflt_str, dflt_int, dflt_bool] at h41
      have h1 := kind3_pos h41
      have hz := size_list ((l.drop 1).getD i ByteArray.empty)
      refine acode_skip ?_
      refine acode_region ?_
      refine And.intro (by first | omega | assumption | decide | (simp only [Int.toNat_natCast, dflt_str]; omega) | (simp <;> omega)) ?_
      refine Or.inl ?_
      refine And.intro (rfl) ?_
      refine Exists.intro _ (And.intro (trimPrefix_c _ _) ?_)
      refine And.intro (by first | exact app_le (by first | omega | (simp only [List.length_cons, List.length_nil, List.length_map, List.length_take, List.length_drop]; omega) | (simp; omega)) (by decide) | omega | assumption | decide | (simp only [Int.toNat_natCast, dflt_sl, dflt_st, dflt_str, dflt_int, dflt_bool]; omega) | (simp <;> omega)) ?_
      refine acode_region ?_
      refine And.intro (by first | omega | assumption | decide | (simp only [Int.toNat_natCast, dflt_sl, dflt_st, dflt_str, dflt_int, dflt_bool]; omega) | (simp <;> omega)) ?_
      exact ⟨i + 1, ⟨by omega, by rw [← take_snoc ByteArray.empty hlt]; intro f hf; rcases List.mem_append.1 hf with h|h; exact hall f h; rw [List.mem_singleton.1 h]; exact h41⟩, by first | omega | (simp <;> omega), le_of ⟨rfl, rfl, rfl, rfl, rfl, (ii_eq (by omega))⟩ ⟨rfl, (vec_eq (map_next moreB ByteArray.empty hlt _ (more_eq _) [_]))⟩ rfl⟩
    ·try simp only [decide_eq_false_iff_not, Int.not_lt] at h36
     try simp only [Int.toNat_natCast, dflt_sl, dflt_st, dflt_str, dflt_int, dflt_bool] at h36
     rw [List.take_of_length_le (by omega)] at hall ⊢
     rw [hd] at hall ⊢
     refine acode_exit ?_
     refine acode_seq ?_
     refine acode_region ?_
     refine Or.inl ?_
     refine And.intro (rfl) ?_
     refine Exists.intro _ (And.intro (join_v s0 r (by rw [hl0]; exact hl)) ?_)
     refine acode_seq ?_
     refine acode_seq ?_
     by_cases hv : 1000 < (valueL (ls s0) (r.map ls)).length
     ·refine acode_region ?_
      refine Or.inl ?_
      refine And.intro (rfl) ?_
      refine Exists.intro _ (And.intro ((check_v (bytes c.1, bytes (valueL (ls s0) (r.map ls))) 6 (by rw [bytes_size]; have := (cut_len s0.data.toList [58]).1; rw [hcl]; rw [size_list] at hs0; omega) (by rw [check_kv _ _ (by rw [hcl]; exact hko), if_pos hv]) : ACall _ _ _ (.one (errN 6)))) ?_)
      refine acode_seq ?_
      refine acode_region ?_
      refine acode_cond rfl (fun h58 => ?_) (fun h58 => ?_)
      ·skip
       refine acode_seq ?_
       refine acode_region ?_
       refine acode_ret ?_
       rw [unfA_bad (n := 6) (by rw [← hl0, unf_good hk4 hall, if_pos hv]) (by decide)]
       rfl
      ·try simp only [decide_eq_true_eq, decide_eq_false_iff_not, Bool.and_eq_true, Bool.not_eq_true', Bool.not_eq_false', Bool.or_eq_false_iff, Bool.or_eq_true, Bool.and_eq_false_iff, Int.not_lt, Int.not_le] at h58
       try simp only [Int.toNat_natCast, dflt_sl, dflt_st, dflt_str, dflt_int, dflt_bool] at h58
       cases h58
     ·refine acode_region ?_
      refine Or.inl ?_
      refine And.intro (rfl) ?_
      refine Exists.intro _ (And.intro ((check_v (bytes c.1, bytes (valueL (ls s0) (r.map ls))) 0 (by rw [bytes_size]; have := (cut_len s0.data.toList [58]).1; rw [hcl]; rw [size_list] at hs0; omega) (by rw [check_kv _ _ (by rw [hcl]; exact hko), if_neg hv]) : ACall _ _ _ (.one (.lit .nilIface)))) ?_)
      refine acode_seq ?_
      refine acode_region ?_
      refine acode_cond rfl (fun h58 => ?_) (fun h58 => ?_)
      ·try simp only [Bool.not_eq_true'] at h58
       try simp only [Int.toNat_natCast, dflt_sl, dflt_st, dflt_str, dflt_int, dflt_bool] at h58
       cases h58
      ·try simp only [Bool.not_eq_false'] at h58
       try simp only [Int.toNat_natCast, dflt_sl, dflt_st, dflt_str, dflt_int, dflt_bool] at h58
       refine acode_skip ?_
       refine acode_seq ?_
       refine acode_region ?_
       refine acode_ret ?_
       rw [unfA_ok (k := c.1) (v := valueL (ls s0) (r.map ls)) (by rw [← hl0, unf_good hk4 hall, if_neg hv, hcl])]
       rfl
end Q
end Ab
end Go.Proofs.YtlbainbjlibfiaaDoor
namespace Go.Proofs.YtlbainbjlibfiaaDoor
open Go.RowKit
namespace Ab
set_option maxRecDepth 100000
namespace Q
theorem unfold_e : ACall Tryd.prog 69 [.one (.sl .str [])] (unfA []) := by
  refine acall_ofc (rs := [.cell 2 57, .tmp 3]) Tryd.func69 rfl rfl rfl teOk rfl ?_
  refine acode_seq ?_
  refine acode_region ?_
  refine acode_seq ?_
  refine acode_seq ?_
  refine acode_region ?_
  intro l1_1
  try simp only [Int.toNat_natCast, dflt_sl, dflt_st, dflt_str, dflt_int, dflt_bool] at l1_1
  refine acode_cond rfl (fun h14 => ?_) (fun h14 => ?_)
  ·try simp only [decide_eq_true_eq] at h14
   try simp only [Int.toNat_natCast, dflt_sl, dflt_st, dflt_str, dflt_int, dflt_bool] at h14
   refine acode_seq ?_
   refine acode_region ?_
   refine acode_ret ?_
   rfl
  ·try simp only [decide_eq_false_iff_not] at h14
   try simp only [Int.toNat_natCast, dflt_sl, dflt_st, dflt_str, dflt_int, dflt_bool] at h14
   exact absurd rfl h14
theorem unfold_a (l : List ByteArray) (hl : LinesOk l) : ACall Tryd.prog 69 [.one (.sl .str l)] (unfA l) := by
  cases l with
  | nil => exact unfold_e
  | cons s r => exact unfold_c s r hl
theorem kind4_key {l : List UInt8} (h4 : kindL l = 4) : 10 ∉ l ∧ ((Lib.cut l [58]).2.2 && keyOk (Lib.cut l [58]).1) = true := by
  unfold kindL at h4
  split at h4
  · cases h4
  · rename_i h10
    refine ⟨h10, ?_⟩
    split at h4
    · cases h4
    · split at h4
      · cases h4
      · split at h4
        · cases h4
        · split at h4
          · rename_i h5; exact h5
          · cases h4
theorem unf_cases (L : List (List UInt8)) : (∃ n, (n = 2 ∨ n = 6) ∧ unfoldL L = (([], []), n)) ∨ ∃ k v, unfoldL L = ((k, v), 0) ∧ keyOk k = true ∧ v.length ≤ 1000 := by
  cases L with
  | nil => exact .inl ⟨2, .inl rfl, rfl⟩
  | cons a r =>
    rw [unfoldL]
    split
    · exact .inl ⟨2, .inl rfl, rfl⟩
    · rename_i h1
      split
      · exact .inl ⟨6, .inr rfl, rfl⟩
      · rename_i h2
        have h4 : kindL a = 4 := Classical.not_not.1 fun h => h1 (.inl h)
        have := (kind4_key h4).2
        rw [Bool.and_eq_true] at this
        exact .inr ⟨_, _, rfl, this.2, by omega⟩
theorem unfold_bad (l : List ByteArray) (hl : LinesOk l) {n : Int} (h : unfoldL (l.map ls) = (([], []), n)) (hn : n = 2 ∨ n = 6) : ACall Tryd.prog 69 [.one (.sl .str l)] (.tup [(true, [.lit (.string ⟨#[]⟩), .lit (.string ⟨#[]⟩)]), (false, [errN n])]) := by
  have := unfold_a l hl
  rw [unfA_bad (n := n) (by rw [h]) (by rcases hn with rfl | rfl <;> decide)] at this
  exact this
theorem unfold_ok (l : List ByteArray) (hl : LinesOk l) {k v : List UInt8} (h : unfoldL (l.map ls) = ((k, v), 0)) : ACall Tryd.prog 69 [.one (.sl .str l)] (.tup [(true, [.lit (.string (bytes k)), .lit (.string (bytes v))]), (false, [.lit .nilIface])]) := by
  have := unfold_a l hl
  rw [unfA_ok h] at this
  exact this
def plainL (l : List ByteArray) : Bool := decide ((unfoldL (l.map ls)).2 = 0) && decide (lineB (bytes (unfoldL (l.map ls)).1.1) (bytes (unfoldL (l.map ls)).1.2) = l)
def refUnfA (l : List ByteArray) : A := .tup [(true, [.lit (.string (bytes (unfoldL (l.map ls)).1.1)), .lit (.string (bytes (unfoldL (l.map ls)).1.2))]), (false, [.lit (.int .i64 (unfoldL (l.map ls)).2)])]
end Q
end Ab
end Go.Proofs.YtlbainbjlibfiaaDoor
namespace Go.Proofs.YtlbainbjlibfiaaDoor
open Go.RowKit
namespace Ab
set_option maxRecDepth 100000
abbrev Itm := Int × ByteArray × List Fld
abbrev rItm : Rd Itm := .st (.int .i64) (.st .str (.sl rFld))
abbrev Lne := Int × Int × ByteArray × Bool
abbrev rLne : Rd Lne := .st (.int .i64) (.st (.int .i64) (.st .str .bool))
namespace Q
structure PSt where
  lns : List ByteArray
  frm : Int
  full : Bool
  its : List Itm
  blk : List ByteArray
  flds : List Fld
  recs : Int
def flushS (p : PSt) : (Int × Int) ⊕ PSt :=
  if p.lns = [] then .inr p
  else if (unfoldL (p.lns.map ls)).2 ≠ 0 then .inl (p.frm, (unfoldL (p.lns.map ls)).2)
  else if p.full = true then .inl (p.frm, 11)
  else .inr { p with flds := p.flds ++ [(bytes (unfoldL (p.lns.map ls)).1.1, bytes (unfoldL (p.lns.map ls)).1.2)], lns := [] }
def rawB (blk : List ByteArray) : ByteArray := bytes (Lib.join (blk.map (·.data.toList)) [10]) ++ ⟨#[10]⟩
def closeS (q : PSt) : PSt :=
  if q.blk = [] then { q with blk := [], flds := [] }
  else { q with its := q.its ++ [((if q.flds = [] then 2 else 3 : Int), rawB q.blk, q.flds)], recs := if q.flds = [] then q.recs else q.recs + 1, blk := [], flds := [] }
def endS (p : PSt) : (Int × Int) ⊕ PSt := match flushS p with
  | .inl e => .inl e
  | .inr q => .inr (closeS q)
def beginS (p : PSt) (l : Lne) : PSt := { p with lns := [l.2.2.1], frm := l.1, full := decide ((p.flds.length : Int) = 40) || (decide ((p.flds.length : Int) = 0) && decide (p.recs = 400)) }
def aheadS (p : PSt) (l : Lne) (kind : Int) : (Int × Int) ⊕ PSt :=
  if kind = 3 then
    if p.lns = [] then .inl (l.1, 2)
    else if l.2.2.2 = true then .inr { p with lns := p.lns ++ [l.2.2.1] }
    else flushS { p with lns := p.lns ++ [l.2.2.1] }
  else if kind = 1 then endS p
  else flushS p
def lineS (q : PSt) (l : Lne) (kind : Int) : (Int × Int) ⊕ PSt :=
  if kind = 5 ∨ l.2.2.2 = false then .inl (l.1, 2)
  else if kind = 1 then .inr { q with its := q.its ++ [(1, l.2.2.1 ++ ⟨#[10]⟩, [])] }
  else if kind = 4 then .inr { beginS q l with blk := q.blk ++ [l.2.2.1] }
  else .inr { q with blk := q.blk ++ [l.2.2.1] }
def takeS (p : PSt) (l : Lne) : (Int × Int) ⊕ PSt := match aheadS p l (kindL (ls l.2.2.1)) with
  | .inl e => .inl e
  | .inr q => lineS q l (kindL (ls l.2.2.1))
structure PB (p : PSt) (B : Nat) : Prop where
  lns : p.lns.length ≤ B
  lnb : (p.lns.map (·.size)).sum ≤ B
  its : p.its.length ≤ B
  blk : p.blk.length ≤ B
  blb : (p.blk.map (·.size)).sum ≤ B
  flds : p.flds.length ≤ B
  rec0 : 0 ≤ p.recs
  recB : p.recs ≤ B
theorem PB.mono {p : PSt} {B B' : Nat} (h : PB p B) (hB : B ≤ B') : PB p B' :=
  ⟨by have := h.lns; omega, by have := h.lnb; omega, by have := h.its; omega, by have := h.blk; omega, by have := h.blb; omega, by have := h.flds; omega, h.rec0, by have := h.recB; omega⟩
theorem flushS_B {p q : PSt} {B : Nat} (h : PB p B) (hf : flushS p = .inr q) : PB q (B + 1) := by
  unfold flushS at hf
  split at hf
  · cases hf; exact h.mono (by omega)
  · split at hf
    · cases hf
    · split at hf
      · cases hf
      · cases hf
        have := h.flds
        exact ⟨by simp, by simp, by have := h.its; simp only; omega, by have := h.blk; simp only; omega, by have := h.blb; simp only; omega, by simp; omega, h.rec0, by have := h.recB; simp only; omega⟩
theorem closeS_B {p : PSt} {B : Nat} (h : PB p B) : PB (closeS p) (B + 1) := by
  have h1 := h.lns
  have h2 := h.lnb
  have h3 := h.its
  have h4 := h.rec0
  have h5 := h.recB
  unfold closeS
  split
  · exact ⟨by simp only; omega, by simp only; omega, by simp only; omega, by simp, by simp, by simp, h4, by simp only; omega⟩
  · refine ⟨by simp only; omega, by simp only; omega, by simp; omega, by simp, by simp, by simp, ?_, ?_⟩
    · simp only; split <;> omega
    · simp only; split <;> omega
theorem endS_B {p q : PSt} {B : Nat} (h : PB p B) (hf : endS p = .inr q) : PB q (B + 2) := by
  unfold endS at hf
  split at hf
  · cases hf
  · rename_i r e
    cases hf
    exact closeS_B (flushS_B h e)
theorem more_B {p : PSt} {B : Nat} (s : ByteArray) (h : PB p B) : PB { p with lns := p.lns ++ [s] } (B + 1 + s.size) := by
  have h1 := h.lns
  have h2 := h.lnb
  have h3 := h.its
  have h5 := h.recB
  have h6 := h.blk
  have h7 := h.blb
  have h8 := h.flds
  exact ⟨by simp; omega, by simp; omega, by simp only; omega, by simp only; omega, by simp only; omega, by simp only; omega, h.rec0, by simp only; omega⟩
theorem aheadS_B {p q : PSt} {B : Nat} {l : Lne} {k : Int} (h : PB p B) (hf : aheadS p l k = .inr q) : PB q (B + 2 + l.2.2.1.size) := by
  unfold aheadS at hf
  split at hf
  · split at hf
    · cases hf
    · split at hf
      · cases hf; exact (more_B _ h).mono (by omega)
      · exact (flushS_B (more_B _ h) hf).mono (by omega)
  · split at hf
    · exact (endS_B h hf).mono (by omega)
    · exact (flushS_B h hf).mono (by omega)
theorem lineS_B {p q : PSt} {B : Nat} {l : Lne} {k : Int} (h : PB p B) (hs : l.2.2.1.size ≤ B) (_hB : 1 ≤ B) (hf : lineS p l k = .inr q) : PB q (B + 1 + l.2.2.1.size) := by
  have h1 := h.lns
  have h2 := h.lnb
  have h3 := h.its
  have h5 := h.recB
  have h6 := h.blk
  have h7 := h.blb
  have h8 := h.flds
  unfold lineS at hf
  split at hf
  · cases hf
  · split at hf
    · cases hf
      exact ⟨by simp only; omega, by simp only; omega, by simp; omega, by simp only; omega, by simp only; omega, by simp only; omega, h.rec0, by simp only; omega⟩
    · split at hf
      · cases hf
        exact ⟨by simp [beginS]; omega, by simp [beginS], by simp only [beginS]; omega, by simp; omega, by simp; omega, by simp only [beginS]; omega, h.rec0, by simp only [beginS]; omega⟩
      · cases hf
        exact ⟨by simp only; omega, by simp only; omega, by simp only; omega, by simp; omega, by simp; omega, by simp only; omega, h.rec0, by simp only; omega⟩
theorem takeS_B {p q : PSt} {B : Nat} {l : Lne} (h : PB p B) (hf : takeS p l = .inr q) : PB q (B + 3 + 2 * l.2.2.1.size) := by
  unfold takeS at hf
  split at hf
  · cases hf
  · rename_i r e
    exact (lineS_B (aheadS_B h e) (by omega) (by omega) hf).mono (by omega)
def pst0 : PSt := ⟨[], 0, false, [], [], [], 0⟩
end Q
end Ab
end Go.Proofs.YtlbainbjlibfiaaDoor
namespace Go.Proofs.YtlbainbjlibfiaaDoor
open Go.RowKit
namespace Ab
set_option maxRecDepth 100000
namespace Q
theorem fault_c (at_ n : Int) : ACall Tryd.prog 54 [ii .i64 at_, .one (errN n)] (.one (errF at_ n)) := by
  refine acall_of (rs := [4]) Tryd.func54 rfl rfl rfl teOk rfl ?_
  refine acode_seq ?_
  refine acode_region ?_
  refine acode_seq ?_
  refine acode_region ?_
  refine acode_ret ?_
  rfl
def psO (p : PSt) : Obs := [(0, .box 80 [.vec 1, .lit (.int .i64 p.frm), .lit (.bool p.full), .vec 2, .vec 3, .vec 4, .lit (.int .i64 p.recs)]), (1, .vec 9 .str p.lns), (2, .vec 26 rItm p.its), (3, .vec 9 .str p.blk), (4, .vec 57 rFld p.flds)]
theorem flush_nil (p : PSt) (h : p.lns = []) : ACallO Tryd.prog 56 [.one (.own 0 0)] (psO p) 5 (.one (.lit .nilIface)) (psO p) 5 := by
  refine acallo_of (rs := [2]) Tryd.func56 rfl rfl rfl teOk (by decide) rfl ?_
  refine acode_seq ?_
  refine acode_region ?_
  refine acode_seq ?_
  refine acode_seq ?_
  refine acode_region ?_
  intro l1_5
  try simp only [Int.toNat_natCast, dflt_sl, dflt_st, dflt_str, dflt_int, dflt_bool] at l1_5
  refine acode_cond rfl (fun h11 => ?_) (fun h11 => ?_)
  ·try simp only [decide_eq_true_eq] at h11
   try simp only [Int.toNat_natCast, dflt_sl, dflt_st, dflt_str, dflt_int, dflt_bool] at h11
   refine acode_seq ?_
   refine acode_region ?_
   refine acode_ret ?_
   exact ⟨rfl, ⟨rfl, rfl, rfl, rfl, rfl⟩, rfl⟩
  ·try simp only [decide_eq_false_iff_not] at h11
   try simp only [Int.toNat_natCast, dflt_sl, dflt_st, dflt_str, dflt_int, dflt_bool] at h11
   exact absurd (by rw [h]; rfl) h11
theorem flush_good (p : PSt) {k v : List UInt8} (h0 : p.lns ≠ []) (hu : unfoldL (p.lns.map ls) = ((k, v), 0)) (hf : p.full = false) (hb : PB p 1000000) : ACallO Tryd.prog 56 [.one (.own 0 0)] (psO p) 5 (.one (.lit .nilIface)) (psO { p with flds := p.flds ++ [(bytes k, bytes v)], lns := [] }) 5 := by
  have hfl := hb.flds
  refine acallo_of (rs := [2]) Tryd.func56 rfl rfl rfl teOk (by decide) rfl ?_
  refine acode_seq ?_
  refine acode_region ?_
  refine acode_seq ?_
  refine acode_seq ?_
  refine acode_region ?_
  intro l1_5
  try simp only [Int.toNat_natCast, dflt_sl, dflt_st, dflt_str, dflt_int, dflt_bool] at l1_5
  refine acode_cond rfl (fun h11 => ?_) (fun h11 => ?_)
  ·try simp only [decide_eq_true_eq] at h11
   try simp only [Int.toNat_natCast, dflt_sl, dflt_st, dflt_str, dflt_int, dflt_bool] at h11
   exact absurd (List.eq_nil_of_length_eq_zero (by omega)) h0
  ·try simp only [decide_eq_false_iff_not] at h11
   try simp only [Int.toNat_natCast, dflt_sl, dflt_st, dflt_str, dflt_int, dflt_bool] at h11
   refine acode_skip ?_
   refine acode_seq ?_
   refine acode_renew 1 rfl ?_
   refine acode_region ?_
   refine Or.inl ?_
   refine And.intro (rfl) ?_
   refine Exists.intro _ (And.intro (unfold_ok p.lns ⟨hb.lns, Nat.le_trans hb.lnb (by decide)⟩ hu) ?_)
   refine acode_seq ?_
   refine acode_block ?_
   refine acode_seq ?_
   refine acode_region ?_
   refine acode_cond rfl (fun h21 => ?_) (fun h21 => ?_)
   ·try simp only [Bool.not_eq_true'] at h21
    try simp only [Int.toNat_natCast, dflt_sl, dflt_st, dflt_str, dflt_int, dflt_bool] at h21
    cases h21
   ·try simp only [Bool.not_eq_false'] at h21
    try simp only [Int.toNat_natCast, dflt_sl, dflt_st, dflt_str, dflt_int, dflt_bool] at h21
    refine acode_seq ?_
    refine acode_region ?_
    refine acode_cond rfl (fun h31 => ?_) (fun h31 => ?_)
    ·try simp only [decide_eq_true_eq, decide_eq_false_iff_not, Bool.and_eq_true, Bool.not_eq_true', Bool.not_eq_false', Bool.or_eq_false_iff, Bool.or_eq_true, Bool.and_eq_false_iff, Int.not_lt, Int.not_le] at h31
     try simp only [Int.toNat_natCast, dflt_sl, dflt_st, dflt_str, dflt_int, dflt_bool] at h31
     exact absurd h31 (by rw [hf]; decide)
    ·try simp only [decide_eq_true_eq, decide_eq_false_iff_not, Bool.and_eq_true, Bool.not_eq_true', Bool.not_eq_false', Bool.or_eq_false_iff, Bool.or_eq_true, Bool.and_eq_false_iff, Int.not_lt, Int.not_le] at h31
     try simp only [Int.toNat_natCast, dflt_sl, dflt_st, dflt_str, dflt_int, dflt_bool] at h31
     refine acode_skip ?_
     refine acode_seq ?_
     refine acode_ord rfl ?_
     refine aord_light 0 rfl rfl rfl (by kernel_rfl) ?_
     refine aord_light 1 rfl rfl rfl (by kernel_rfl) ?_
     refine aord_light 2 rfl rfl rfl (by kernel_rfl) ?_
     refine aord_light 3 rfl rfl rfl (by kernel_rfl) ?_
     refine aord_light 4 rfl rfl rfl (by kernel_rfl) ?_
     refine aord_all [5, 6] (by kernel_rfl) rfl ?_
     refine And.intro ?_ ?_
     ·refine aord_all [6] (by kernel_rfl) rfl ?_
      refine aord_all [7] (by kernel_rfl) rfl ?_
      refine aord_all [8] (by kernel_rfl) rfl ?_
      refine And.intro (by first | exact app_le (by first | omega | (simp only [List.length_cons, List.length_nil]; omega) | (simp; omega)) (by decide) | omega | assumption | decide | (simp only [Int.toNat_natCast, dflt_sl, dflt_st, dflt_str, dflt_int, dflt_bool]; omega) | (simp <;> omega)) ?_
      refine aord_light 9 rfl rfl rfl (by kernel_rfl) ?_
      refine aord_light 10 rfl rfl rfl (by kernel_rfl) ?_
      refine aord_all [11] (by kernel_rfl) rfl ?_
      refine aord_light 12 rfl rfl rfl (by kernel_rfl) ?_
      refine aord_light 13 rfl rfl rfl (by kernel_rfl) ?_
      refine aord_light 14 rfl rfl rfl (by kernel_rfl) ?_
      refine aord_all [15] (by kernel_rfl) rfl ?_
      refine aord_done (by kernel_rfl) ?_
      refine acode_seq ?_
      refine acode_nilcell 0 0 9 .str rfl rfl rfl ?_
      refine acode_swap 1 7 rfl rfl ?_
      refine acode_region ?_
      refine acode_ret ?_
      exact ⟨rfl, ⟨rfl, rfl, rfl, rfl, rfl⟩, rfl⟩
     ·refine aord_all [5, 7] (by kernel_rfl) rfl ?_
      refine And.intro ?_ ?_
      ·refine aord_all [7] (by kernel_rfl) rfl ?_
       refine aord_all [8] (by kernel_rfl) rfl ?_
       refine And.intro (by first | exact app_le (by first | omega | (simp only [List.length_cons, List.length_nil]; omega) | (simp; omega)) (by decide) | omega | assumption | decide | (simp only [Int.toNat_natCast, dflt_sl, dflt_st, dflt_str, dflt_int, dflt_bool]; omega) | (simp <;> omega)) ?_
       refine aord_light 9 rfl rfl rfl (by kernel_rfl) ?_
       refine aord_light 10 rfl rfl rfl (by kernel_rfl) ?_
       refine aord_all [11] (by kernel_rfl) rfl ?_
       refine aord_light 12 rfl rfl rfl (by kernel_rfl) ?_
       refine aord_light 13 rfl rfl rfl (by kernel_rfl) ?_
       refine aord_light 14 rfl rfl rfl (by kernel_rfl) ?_
       refine aord_all [15] (by kernel_rfl) rfl ?_
       refine aord_done (by kernel_rfl) ?_
       refine acode_seq ?_
       refine acode_nilcell 0 0 9 .str rfl rfl rfl ?_
       refine acode_swap 1 7 rfl rfl ?_
       refine acode_region ?_
       refine acode_ret ?_
       exact ⟨rfl, ⟨rfl, rfl, rfl, rfl, rfl⟩, rfl⟩
      ·refine aord_all [5] (by kernel_rfl) rfl ?_
       refine aord_all [8] (by kernel_rfl) rfl ?_
       refine And.intro (by first | exact app_le (by first | omega | (simp only [List.length_cons, List.length_nil]; omega) | (simp; omega)) (by decide) | omega | assumption | decide | (simp only [Int.toNat_natCast, dflt_sl, dflt_st, dflt_str, dflt_int, dflt_bool]; omega) | (simp <;> omega)) ?_
       refine aord_light 9 rfl rfl rfl (by kernel_rfl) ?_
       refine aord_light 10 rfl rfl rfl (by kernel_rfl) ?_
       refine aord_all [11] (by kernel_rfl) rfl ?_
       refine aord_light 12 rfl rfl rfl (by kernel_rfl) ?_
       refine aord_light 13 rfl rfl rfl (by kernel_rfl) ?_
       refine aord_light 14 rfl rfl rfl (by kernel_rfl) ?_
       refine aord_all [15] (by kernel_rfl) rfl ?_
       refine aord_done (by kernel_rfl) ?_
       refine acode_seq ?_
       refine acode_nilcell 0 0 9 .str rfl rfl rfl ?_
       refine acode_swap 1 7 rfl rfl ?_
       refine acode_region ?_
       refine acode_ret ?_
       exact ⟨rfl, ⟨rfl, rfl, rfl, rfl, rfl⟩, rfl⟩
theorem flush_bad (p : PSt) {n : Int} (h0 : p.lns ≠ []) (hu : unfoldL (p.lns.map ls) = (([], []), n)) (hn : n = 2 ∨ n = 6) (hb : PB p 1000000) : ACallO Tryd.prog 56 [.one (.own 0 0)] (psO p) 5 (.one (errF p.frm n)) [] 5 := by
  refine acallo_of (rs := [2]) Tryd.func56 rfl rfl rfl teOk (by decide) rfl ?_
  refine acode_seq ?_
  refine acode_region ?_
  refine acode_seq ?_
  refine acode_seq ?_
  refine acode_region ?_
  intro l1_5
  try simp only [Int.toNat_natCast, dflt_sl, dflt_st, dflt_str, dflt_int, dflt_bool] at l1_5
  refine acode_cond rfl (fun h11 => ?_) (fun h11 => ?_)
  ·try simp only [decide_eq_true_eq] at h11
   try simp only [Int.toNat_natCast, dflt_sl, dflt_st, dflt_str, dflt_int, dflt_bool] at h11
   exact absurd (List.eq_nil_of_length_eq_zero (by omega)) h0
  ·try simp only [decide_eq_false_iff_not] at h11
   try simp only [Int.toNat_natCast, dflt_sl, dflt_st, dflt_str, dflt_int, dflt_bool] at h11
   refine acode_skip ?_
   refine acode_seq ?_
   refine acode_renew 1 rfl ?_
   refine acode_region ?_
   refine Or.inl ?_
   refine And.intro (rfl) ?_
   refine Exists.intro _ (And.intro (unfold_bad p.lns ⟨hb.lns, Nat.le_trans hb.lnb (by decide)⟩ hu hn) ?_)
   refine acode_seq ?_
   refine acode_block ?_
   refine acode_seq ?_
   refine acode_region ?_
   refine acode_cond rfl (fun h21 => ?_) (fun h21 => ?_)
   ·skip
    refine acode_seq ?_
    refine acode_region ?_
    refine Or.inl ?_
    refine And.intro (rfl) ?_
    refine Exists.intro _ (And.intro (fault_c p.frm n) ?_)
    refine acode_ret ?_
    exact ⟨rfl, trivial, rfl⟩
   ·try simp only [decide_eq_true_eq, decide_eq_false_iff_not, Bool.and_eq_true, Bool.not_eq_true', Bool.not_eq_false', Bool.or_eq_false_iff, Bool.or_eq_true, Bool.and_eq_false_iff, Int.not_lt, Int.not_le] at h21
    try simp only [Int.toNat_natCast, dflt_sl, dflt_st, dflt_str, dflt_int, dflt_bool] at h21
    cases h21
theorem flush_full (p : PSt) {k v : List UInt8} (h0 : p.lns ≠ []) (hu : unfoldL (p.lns.map ls) = ((k, v), 0)) (hf : p.full = true) (hb : PB p 1000000) : ACallO Tryd.prog 56 [.one (.own 0 0)] (psO p) 5 (.one (errF p.frm 11)) [] 5 := by
  refine acallo_of (rs := [2]) Tryd.func56 rfl rfl rfl teOk (by decide) rfl ?_
  refine acode_seq ?_
  refine acode_region ?_
  refine acode_seq ?_
  refine acode_seq ?_
  refine acode_region ?_
  intro l1_5
  try simp only [Int.toNat_natCast, dflt_sl, dflt_st, dflt_str, dflt_int, dflt_bool] at l1_5
  refine acode_cond rfl (fun h11 => ?_) (fun h11 => ?_)
  ·try simp only [decide_eq_true_eq] at h11
   try simp only [Int.toNat_natCast, dflt_sl, dflt_st, dflt_str, dflt_int, dflt_bool] at h11
   exact absurd (List.eq_nil_of_length_eq_zero (by omega)) h0
  ·try simp only [decide_eq_false_iff_not] at h11
   try simp only [Int.toNat_natCast, dflt_sl, dflt_st, dflt_str, dflt_int, dflt_bool] at h11
   refine acode_skip ?_
   refine acode_seq ?_
   refine acode_renew 1 rfl ?_
   refine acode_region ?_
   refine Or.inl ?_
   refine And.intro (rfl) ?_
   refine Exists.intro _ (And.intro (unfold_ok p.lns ⟨hb.lns, Nat.le_trans hb.lnb (by decide)⟩ hu) ?_)
   refine acode_seq ?_
   refine acode_block ?_
   refine acode_seq ?_
   refine acode_region ?_
   refine acode_cond rfl (fun h21 => ?_) (fun h21 => ?_)
   ·try simp only [Bool.not_eq_true'] at h21
    try simp only [Int.toNat_natCast, dflt_sl, dflt_st, dflt_str, dflt_int, dflt_bool] at h21
    cases h21
   ·try simp only [Bool.not_eq_false'] at h21
    try simp only [Int.toNat_natCast, dflt_sl, dflt_st, dflt_str, dflt_int, dflt_bool] at h21
    refine acode_seq ?_
    refine acode_region ?_
    refine acode_cond rfl (fun h31 => ?_) (fun h31 => ?_)
    ·try simp only [decide_eq_true_eq, decide_eq_false_iff_not, Bool.and_eq_true, Bool.not_eq_true', Bool.not_eq_false', Bool.or_eq_false_iff, Bool.or_eq_true, Bool.and_eq_false_iff, Int.not_lt, Int.not_le] at h31
     try simp only [Int.toNat_natCast, dflt_sl, dflt_st, dflt_str, dflt_int, dflt_bool] at h31
     refine acode_seq ?_
     refine acode_region ?_
     refine Or.inl ?_
     refine And.intro (rfl) ?_
     refine Exists.intro _ (And.intro (fault_c p.frm 11) ?_)
     refine acode_ret ?_
     exact ⟨rfl, trivial, rfl⟩
    ·try simp only [decide_eq_true_eq, decide_eq_false_iff_not, Bool.and_eq_true, Bool.not_eq_true', Bool.not_eq_false', Bool.or_eq_false_iff, Bool.or_eq_true, Bool.and_eq_false_iff, Int.not_lt, Int.not_le] at h31
     try simp only [Int.toNat_natCast, dflt_sl, dflt_st, dflt_str, dflt_int, dflt_bool] at h31
     exact absurd h31 (by rw [hf]; decide)
theorem flush_ok {p q : PSt} (h : flushS p = .inr q) (hb : PB p 1000000) : ACallO Tryd.prog 56 [.one (.own 0 0)] (psO p) 5 (.one (.lit .nilIface)) (psO q) 5 := by
  unfold flushS at h
  split at h
  · rename_i h0; cases h; exact flush_nil p h0
  · rename_i h0
    rcases unf_cases (p.lns.map ls) with ⟨n, hn, hu⟩ | ⟨k, v, hu, _, _⟩
    · rw [hu, if_pos (by rcases hn with rfl | rfl <;> decide)] at h; cases h
    · rw [hu, if_neg (by simp)] at h
      split at h
      · cases h
      · rename_i hf; cases h; exact flush_good p h0 hu (by simpa using hf) hb
theorem flush_err {p : PSt} {at_ n : Int} (h : flushS p = .inl (at_, n)) (hb : PB p 1000000) : ACallO Tryd.prog 56 [.one (.own 0 0)] (psO p) 5 (.one (errF at_ n)) [] 5 := by
  unfold flushS at h
  split at h
  · cases h
  · rename_i h0
    rcases unf_cases (p.lns.map ls) with ⟨m, hn, hu⟩ | ⟨k, v, hu, _, _⟩
    · rw [hu, if_pos (by rcases hn with rfl | rfl <;> decide)] at h; cases h; exact flush_bad p h0 hu hn hb
    · rw [hu, if_neg (by simp)] at h
      split at h
      · rename_i hf; cases h; exact flush_full p h0 hu hf hb
      · cases h
end Q
end Ab
end Go.Proofs.YtlbainbjlibfiaaDoor
namespace Go.Proofs.YtlbainbjlibfiaaDoor
open Go.RowKit
namespace Ab
set_option maxRecDepth 100000
set_option maxHeartbeats 4000000
namespace Q
theorem join_sz (l : List ByteArray) : (Lib.join (l.map (·.data.toList)) [10]).length ≤ (l.map (·.size)).sum + l.length := by
  refine Nat.le_trans (joinL_len 10 _) ?_
  rw [List.map_map, List.length_map]
  refine Nat.add_le_add_right (Nat.le_of_eq ?_) _
  exact congrArg _ (List.map_congr_left fun s _ => (size_list s).symm)
theorem raw_sz {l : List ByteArray} (h1 : l.length ≤ 2000000) (h2 : (l.map (·.size)).sum ≤ 2000000) : ByteArray.size { data := (Lib.join (l.map (fun x => x.data.toList)) [10]).toArray } ≤ 4000000 := by
  have := join_sz l
  show Array.size _ ≤ _
  rw [List.size_toArray]
  omega
theorem end_nil {p q : PSt} (h : flushS p = .inr q) (hq : q.blk = []) (hb : PB p 1000000) : ACallO Tryd.prog 43 [.one (.own 0 0)] (psO p) 5 (.one (.lit .nilIface)) (psO { q with blk := [], flds := [] }) 5 := by
  refine acallo_of (rs := [2]) Tryd.func43 rfl rfl rfl teOk (by decide) rfl ?_
  refine acode_seq ?_
  refine acode_region ?_
  refine acode_seq ?_
  refine acode_seq ?_
  refine acode_region ?_
  refine Or.inr (Or.inl (Exists.intro [] (Exists.intro [0, 1, 2, 3, 4] (Exists.intro _ (Exists.intro _ (Exists.intro _ (Exists.intro _ (Exists.intro _ (And.intro (flush_ok h hb) (And.intro rfl (And.intro (And.intro (And.intro rfl rfl) (And.intro (And.intro rfl rfl) (And.intro (And.intro rfl rfl) (And.intro (And.intro rfl rfl) (And.intro (And.intro rfl rfl) True.intro))))) (And.intro rfl ?_))))))))))))
  refine acode_seq ?_
  refine acode_region ?_
  refine acode_cond rfl (fun h8 => ?_) (fun h8 => ?_)
  ·try simp only [Bool.not_eq_true'] at h8
   try simp only [Int.toNat_natCast, dflt_sl, dflt_st, dflt_str, dflt_int, dflt_bool] at h8
   cases h8
  ·try simp only [Bool.not_eq_false'] at h8
   try simp only [Int.toNat_natCast, dflt_sl, dflt_st, dflt_str, dflt_int, dflt_bool] at h8
   refine acode_skip ?_
   refine acode_seq ?_
   refine acode_seq ?_
   refine acode_renew 3 rfl ?_
   refine acode_renew 4 rfl ?_
   refine acode_region ?_
   intro l4_4
   try simp only [Int.toNat_natCast, dflt_sl, dflt_st, dflt_str, dflt_int, dflt_bool] at l4_4
   refine acode_cond rfl (fun h15 => ?_) (fun h15 => ?_)
   ·try simp only [decide_eq_true_eq] at h15
    try simp only [Int.toNat_natCast, dflt_sl, dflt_st, dflt_str, dflt_int, dflt_bool] at h15
    exact absurd (by rw [hq]; rfl : (q.blk.length : Int) = 0) (by omega)
   ·try simp only [decide_eq_false_iff_not, Int.not_lt] at h15
    try simp only [Int.toNat_natCast, dflt_sl, dflt_st, dflt_str, dflt_int, dflt_bool] at h15
    refine acode_skip ?_
    refine acode_seq ?_
    refine acode_region ?_
    refine acode_seq ?_
    refine acode_nilcell 0 4 9 .str rfl rfl rfl ?_
    refine acode_swap 3 5 rfl rfl ?_
    refine acode_nilcell 0 5 57 rFld rfl rfl rfl ?_
    refine acode_swap 4 6 rfl rfl ?_
    refine acode_region ?_
    refine acode_ret ?_
    exact ⟨rfl, ⟨rfl, rfl, rfl, rfl, rfl⟩, rfl⟩
theorem end_blk {p q : PSt} (h : flushS p = .inr q) (hq : q.blk ≠ []) (hb : PB p 1000000) (hb2 : PB q 2000000) : ACallO Tryd.prog 43 [.one (.own 0 0)] (psO p) 5 (.one (.lit .nilIface)) (psO { q with its := q.its ++ [((if q.flds = [] then 2 else 3 : Int), rawB q.blk, q.flds)], recs := (if q.flds = [] then q.recs else q.recs + 1), blk := [], flds := [] }) 5 := by
  have hi := hb2.its
  have hjs := raw_sz hb2.blk hb2.blb
  have hr0 := hb2.rec0
  have hrB := hb2.recB
  refine acallo_of (rs := [2]) Tryd.func43 rfl rfl rfl teOk (by decide) rfl ?_
  refine acode_seq ?_
  refine acode_region ?_
  refine acode_seq ?_
  refine acode_seq ?_
  refine acode_region ?_
  refine Or.inr (Or.inl (Exists.intro [] (Exists.intro [0, 1, 2, 3, 4] (Exists.intro _ (Exists.intro _ (Exists.intro _ (Exists.intro _ (Exists.intro _ (And.intro (flush_ok h hb) (And.intro rfl (And.intro (And.intro (And.intro rfl rfl) (And.intro (And.intro rfl rfl) (And.intro (And.intro rfl rfl) (And.intro (And.intro rfl rfl) (And.intro (And.intro rfl rfl) True.intro))))) (And.intro rfl ?_))))))))))))
  refine acode_seq ?_
  refine acode_region ?_
  refine acode_cond rfl (fun h8 => ?_) (fun h8 => ?_)
  ·try simp only [Bool.not_eq_true'] at h8
   try simp only [Int.toNat_natCast, dflt_sl, dflt_st, dflt_str, dflt_int, dflt_bool] at h8
   cases h8
  ·try simp only [Bool.not_eq_false'] at h8
   try simp only [Int.toNat_natCast, dflt_sl, dflt_st, dflt_str, dflt_int, dflt_bool] at h8
   refine acode_skip ?_
   refine acode_cut (fun (u : Unit) => True) (fun (u : Unit) => [(0, .one (.own 0 0))]) (fun (u : Unit) => [(0, .box 80 [.vec 1, .lit (.int .i64 q.frm), .lit (.bool q.full), .vec 2, .sl .str q.blk, .sl rFld q.flds, .lit (.int .i64 (if q.flds = [] then q.recs else q.recs + 1))]), (1, .vec 9 .str q.lns), (2, .vec 26 rItm (q.its ++ [((if q.flds = [] then 2 else 3 : Int), rawB q.blk, q.flds)])), (3, .vec 9 .str []), (4, .vec 57 rFld [])]) 5 ?_ ?_
   ·refine acode_seq ?_
    refine acode_renew 3 rfl ?_
    refine acode_renew 4 rfl ?_
    refine acode_region ?_
    intro l4_4
    try simp only [Int.toNat_natCast, dflt_sl, dflt_st, dflt_str, dflt_int, dflt_bool] at l4_4
    refine acode_cond rfl (fun h15 => ?_) (fun h15 => ?_)
    ·try simp only [decide_eq_true_eq] at h15
     try simp only [Int.toNat_natCast, dflt_sl, dflt_st, dflt_str, dflt_int, dflt_bool] at h15
     refine acode_seq ?_
     refine acode_region ?_
     refine acode_cut (fun (u : Int × Int) => u = ((if q.flds = [] then 2 else 3 : Int), (if q.flds = [] then q.recs else q.recs + 1))) (fun (u : Int × Int) => [(0, .one (.own 0 0)), (4, ii .i64 u.1)]) (fun (u : Int × Int) => [(0, .box 80 [.vec 1, .lit (.int .i64 q.frm), .lit (.bool q.full), .vec 2, .sl .str q.blk, .sl rFld q.flds, .lit (.int .i64 u.2)]), (1, .vec 9 .str q.lns), (2, .vec 26 rItm q.its), (3, .vec 9 .str []), (4, .vec 57 rFld [])]) 5 ?_ ?_
     ·refine acode_seq ?_
      refine acode_region ?_
      intro l6_4
      try simp only [Int.toNat_natCast, dflt_sl, dflt_st, dflt_str, dflt_int, dflt_bool] at l6_4
      refine acode_cond rfl (fun h21 => ?_) (fun h21 => ?_)
      ·try simp only [decide_eq_true_eq] at h21
       try simp only [Int.toNat_natCast, dflt_sl, dflt_st, dflt_str, dflt_int, dflt_bool] at h21
       refine acode_seq ?_
       refine acode_region ?_
       refine acode_region ?_
       refine And.intro (by first | omega | assumption | decide | (simp only [Int.toNat_natCast, dflt_sl, dflt_st, dflt_str, dflt_int, dflt_bool]; omega) | (simp <;> omega)) ?_
       exact ⟨(3, q.recs + 1), by have hf : q.flds ≠ [] := (fun e => by rw [e] at h21; simp at h21); simp only [if_neg hf], le_of ⟨rfl, rfl⟩ ⟨rfl, rfl, rfl, rfl, rfl⟩ rfl⟩
      ·try simp only [decide_eq_false_iff_not, Int.not_lt] at h21
       try simp only [Int.toNat_natCast, dflt_sl, dflt_st, dflt_str, dflt_int, dflt_bool] at h21
       refine acode_skip ?_
       exact ⟨(2, q.recs), by have hf : q.flds = [] := List.eq_nil_of_length_eq_zero (by omega); simp only [if_pos hf], le_of ⟨rfl, rfl⟩ ⟨rfl, rfl, rfl, rfl, rfl⟩ rfl⟩
     ·intro u hcut9
      obtain ⟨k, rc⟩ := u
      obtain ⟨rfl, rfl⟩ := Prod.mk.inj hcut9
      refine acode_ord rfl ?_
      refine aord_light 0 rfl rfl rfl (by kernel_rfl) ?_
      refine aord_light 1 rfl rfl rfl (by kernel_rfl) ?_
      refine aord_light 2 rfl rfl rfl (by kernel_rfl) ?_
      refine aord_light 3 rfl rfl rfl (by kernel_rfl) ?_
      refine aord_light 5 rfl rfl rfl (by kernel_rfl) ?_
      refine aord_light 6 rfl rfl rfl (by kernel_rfl) ?_
      refine aord_light 7 rfl rfl rfl (by kernel_rfl) ?_
      refine aord_light 8 rfl rfl rfl (by kernel_rfl) ?_
      refine aord_light 12 rfl rfl rfl (by kernel_rfl) ?_
      refine aord_light 13 rfl rfl rfl (by kernel_rfl) ?_
      refine aord_light 14 rfl rfl rfl (by kernel_rfl) ?_
      refine aord_all [4, 9, 15] (by kernel_rfl) rfl ?_
      refine And.intro ?_ ?_
      ·refine aord_all [9, 15] (by kernel_rfl) rfl ?_
       refine And.intro ?_ ?_
       ·refine aord_all [10, 15] (by kernel_rfl) rfl ?_
        refine And.intro ?_ ?_
        ·refine Or.inl ?_
         refine And.intro (rfl) ?_
         refine Exists.intro _ (And.intro (join_c q.blk ⟨#[10]⟩ (Nat.le_trans hb2.blk (by decide)) (Nat.le_trans (join_sz q.blk) (by have := hb2.blk; have := hb2.blb; omega))) ?_)
         refine aord_light 11 rfl rfl rfl (by kernel_rfl) ?_
         refine And.intro (by (have hk0 : ByteArray.size { data := #[10] } = 1 := rfl; first | (unfold maxLen; omega) | (simp only []; omega) | (unfold maxLen; (try simp only []); omega))) ?_
         refine aord_all [15] (by kernel_rfl) rfl ?_
         refine aord_all [16] (by kernel_rfl) rfl ?_
         refine aord_all [17] (by kernel_rfl) rfl ?_
         refine aord_all [18] (by kernel_rfl) rfl ?_
         refine And.intro (by first | exact app_le (by first | omega | (simp only [List.length_cons, List.length_nil]; omega) | (simp; omega)) (by decide) | omega | assumption | decide | (simp only [Int.toNat_natCast, dflt_sl, dflt_st, dflt_str, dflt_int, dflt_bool]; omega) | (simp <;> omega)) ?_
         refine aord_light 19 rfl rfl rfl (by kernel_rfl) ?_
         refine aord_light 20 rfl rfl rfl (by kernel_rfl) ?_
         refine aord_all [21] (by kernel_rfl) rfl ?_
         refine aord_done (by kernel_rfl) ?_
         exact ⟨(), trivial, le_of rfl ⟨rfl, rfl, rfl, rfl, rfl⟩ rfl⟩
        ·refine aord_all [10] (by kernel_rfl) rfl ?_
         refine Or.inl ?_
         refine And.intro (rfl) ?_
         refine Exists.intro _ (And.intro (join_c q.blk ⟨#[10]⟩ (Nat.le_trans hb2.blk (by decide)) (Nat.le_trans (join_sz q.blk) (by have := hb2.blk; have := hb2.blb; omega))) ?_)
         refine aord_light 11 rfl rfl rfl (by kernel_rfl) ?_
         refine And.intro (by (have hk0 : ByteArray.size { data := #[10] } = 1 := rfl; first | (unfold maxLen; omega) | (simp only []; omega) | (unfold maxLen; (try simp only []); omega))) ?_
         refine aord_all [16] (by kernel_rfl) rfl ?_
         refine aord_all [17] (by kernel_rfl) rfl ?_
         refine aord_all [18] (by kernel_rfl) rfl ?_
         refine And.intro (by first | exact app_le (by first | omega | (simp only [List.length_cons, List.length_nil]; omega) | (simp; omega)) (by decide) | omega | assumption | decide | (simp only [Int.toNat_natCast, dflt_sl, dflt_st, dflt_str, dflt_int, dflt_bool]; omega) | (simp <;> omega)) ?_
         refine aord_light 19 rfl rfl rfl (by kernel_rfl) ?_
         refine aord_light 20 rfl rfl rfl (by kernel_rfl) ?_
         refine aord_all [21] (by kernel_rfl) rfl ?_
         refine aord_done (by kernel_rfl) ?_
         exact ⟨(), trivial, le_of rfl ⟨rfl, rfl, rfl, rfl, rfl⟩ rfl⟩
       ·refine aord_all [9] (by kernel_rfl) rfl ?_
        refine aord_all [10] (by kernel_rfl) rfl ?_
        refine Or.inl ?_
        refine And.intro (rfl) ?_
        refine Exists.intro _ (And.intro (join_c q.blk ⟨#[10]⟩ (Nat.le_trans hb2.blk (by decide)) (Nat.le_trans (join_sz q.blk) (by have := hb2.blk; have := hb2.blb; omega))) ?_)
        refine aord_light 11 rfl rfl rfl (by kernel_rfl) ?_
        refine And.intro (by (have hk0 : ByteArray.size { data := #[10] } = 1 := rfl; first | (unfold maxLen; omega) | (simp only []; omega) | (unfold maxLen; (try simp only []); omega))) ?_
        refine aord_all [16] (by kernel_rfl) rfl ?_
        refine aord_all [17] (by kernel_rfl) rfl ?_
        refine aord_all [18] (by kernel_rfl) rfl ?_
        refine And.intro (by first | exact app_le (by first | omega | (simp only [List.length_cons, List.length_nil]; omega) | (simp; omega)) (by decide) | omega | assumption | decide | (simp only [Int.toNat_natCast, dflt_sl, dflt_st, dflt_str, dflt_int, dflt_bool]; omega) | (simp <;> omega)) ?_
        refine aord_light 19 rfl rfl rfl (by kernel_rfl) ?_
        refine aord_light 20 rfl rfl rfl (by kernel_rfl) ?_
        refine aord_all [21] (by kernel_rfl) rfl ?_
        refine aord_done (by kernel_rfl) ?_
        exact ⟨(), trivial, le_of rfl ⟨rfl, rfl, rfl, rfl, rfl⟩ rfl⟩
      refine And.intro ?_ ?_
      ·refine aord_all [4, 10, 15] (by kernel_rfl) rfl ?_
       refine And.intro ?_ ?_
       ·refine aord_all [10, 15] (by kernel_rfl) rfl ?_
        refine And.intro ?_ ?_
        ·refine Or.inl ?_
         refine And.intro (rfl) ?_
         refine Exists.intro _ (And.intro (join_c q.blk ⟨#[10]⟩ (Nat.le_trans hb2.blk (by decide)) (Nat.le_trans (join_sz q.blk) (by have := hb2.blk; have := hb2.blb; omega))) ?_)
         refine aord_light 11 rfl rfl rfl (by kernel_rfl) ?_
         refine And.intro (by (have hk0 : ByteArray.size { data := #[10] } = 1 := rfl; first | (unfold maxLen; omega) | (simp only []; omega) | (unfold maxLen; (try simp only []); omega))) ?_
         refine aord_all [15] (by kernel_rfl) rfl ?_
         refine aord_all [16] (by kernel_rfl) rfl ?_
         refine aord_all [17] (by kernel_rfl) rfl ?_
         refine aord_all [18] (by kernel_rfl) rfl ?_
         refine And.intro (by first | exact app_le (by first | omega | (simp only [List.length_cons, List.length_nil]; omega) | (simp; omega)) (by decide) | omega | assumption | decide | (simp only [Int.toNat_natCast, dflt_sl, dflt_st, dflt_str, dflt_int, dflt_bool]; omega) | (simp <;> omega)) ?_
         refine aord_light 19 rfl rfl rfl (by kernel_rfl) ?_
         refine aord_light 20 rfl rfl rfl (by kernel_rfl) ?_
         refine aord_all [21] (by kernel_rfl) rfl ?_
         refine aord_done (by kernel_rfl) ?_
         exact ⟨(), trivial, le_of rfl ⟨rfl, rfl, rfl, rfl, rfl⟩ rfl⟩
        ·refine aord_all [10] (by kernel_rfl) rfl ?_
         refine Or.inl ?_
         refine And.intro (rfl) ?_
         refine Exists.intro _ (And.intro (join_c q.blk ⟨#[10]⟩ (Nat.le_trans hb2.blk (by decide)) (Nat.le_trans (join_sz q.blk) (by have := hb2.blk; have := hb2.blb; omega))) ?_)
         refine aord_light 11 rfl rfl rfl (by kernel_rfl) ?_
         refine And.intro (by (have hk0 : ByteArray.size { data := #[10] } = 1 := rfl; first | (unfold maxLen; omega) | (simp only []; omega) | (unfold maxLen; (try simp only []); omega))) ?_
         refine aord_all [16] (by kernel_rfl) rfl ?_
         refine aord_all [17] (by kernel_rfl) rfl ?_
         refine aord_all [18] (by kernel_rfl) rfl ?_
         refine And.intro (by first | exact app_le (by first | omega | (simp only [List.length_cons, List.length_nil]; omega) | (simp; omega)) (by decide) | omega | assumption | decide | (simp only [Int.toNat_natCast, dflt_sl, dflt_st, dflt_str, dflt_int, dflt_bool]; omega) | (simp <;> omega)) ?_
         refine aord_light 19 rfl rfl rfl (by kernel_rfl) ?_
         refine aord_light 20 rfl rfl rfl (by kernel_rfl) ?_
         refine aord_all [21] (by kernel_rfl) rfl ?_
         refine aord_done (by kernel_rfl) ?_
         exact ⟨(), trivial, le_of rfl ⟨rfl, rfl, rfl, rfl, rfl⟩ rfl⟩
       refine And.intro ?_ ?_
       ·refine Or.inl ?_
        refine And.intro (rfl) ?_
        refine Exists.intro _ (And.intro (join_c q.blk ⟨#[10]⟩ (Nat.le_trans hb2.blk (by decide)) (Nat.le_trans (join_sz q.blk) (by have := hb2.blk; have := hb2.blb; omega))) ?_)
        refine aord_light 11 rfl rfl rfl (by kernel_rfl) ?_
        refine And.intro (by (have hk0 : ByteArray.size { data := #[10] } = 1 := rfl; first | (unfold maxLen; omega) | (simp only []; omega) | (unfold maxLen; (try simp only []); omega))) ?_
        refine aord_all [4, 15] (by kernel_rfl) rfl ?_
        refine And.intro ?_ ?_
        ·refine aord_all [15] (by kernel_rfl) rfl ?_
         refine aord_all [16] (by kernel_rfl) rfl ?_
         refine aord_all [17] (by kernel_rfl) rfl ?_
         refine aord_all [18] (by kernel_rfl) rfl ?_
         refine And.intro (by first | exact app_le (by first | omega | (simp only [List.length_cons, List.length_nil]; omega) | (simp; omega)) (by decide) | omega | assumption | decide | (simp only [Int.toNat_natCast, dflt_sl, dflt_st, dflt_str, dflt_int, dflt_bool]; omega) | (simp <;> omega)) ?_
         refine aord_light 19 rfl rfl rfl (by kernel_rfl) ?_
         refine aord_light 20 rfl rfl rfl (by kernel_rfl) ?_
         refine aord_all [21] (by kernel_rfl) rfl ?_
         refine aord_done (by kernel_rfl) ?_
         exact ⟨(), trivial, le_of rfl ⟨rfl, rfl, rfl, rfl, rfl⟩ rfl⟩
        ·refine aord_all [4, 16] (by kernel_rfl) rfl ?_
         refine And.intro ?_ ?_
         ·refine aord_all [16] (by kernel_rfl) rfl ?_
          refine aord_all [17] (by kernel_rfl) rfl ?_
          refine aord_all [18] (by kernel_rfl) rfl ?_
          refine And.intro (by first | exact app_le (by first | omega | (simp only [List.length_cons, List.length_nil]; omega) | (simp; omega)) (by decide) | omega | assumption | decide | (simp only [Int.toNat_natCast, dflt_sl, dflt_st, dflt_str, dflt_int, dflt_bool]; omega) | (simp <;> omega)) ?_
          refine aord_light 19 rfl rfl rfl (by kernel_rfl) ?_
          refine aord_light 20 rfl rfl rfl (by kernel_rfl) ?_
          refine aord_all [21] (by kernel_rfl) rfl ?_
          refine aord_done (by kernel_rfl) ?_
          exact ⟨(), trivial, le_of rfl ⟨rfl, rfl, rfl, rfl, rfl⟩ rfl⟩
         ·refine aord_all [4, 17] (by kernel_rfl) rfl ?_
          refine And.intro ?_ ?_
          ·refine aord_all [17] (by kernel_rfl) rfl ?_
           refine aord_all [18] (by kernel_rfl) rfl ?_
           refine And.intro (by first | exact app_le (by first | omega | (simp only [List.length_cons, List.length_nil]; omega) | (simp; omega)) (by decide) | omega | assumption | decide | (simp only [Int.toNat_natCast, dflt_sl, dflt_st, dflt_str, dflt_int, dflt_bool]; omega) | (simp <;> omega)) ?_
           refine aord_light 19 rfl rfl rfl (by kernel_rfl) ?_
           refine aord_light 20 rfl rfl rfl (by kernel_rfl) ?_
           refine aord_all [21] (by kernel_rfl) rfl ?_
           refine aord_done (by kernel_rfl) ?_
           exact ⟨(), trivial, le_of rfl ⟨rfl, rfl, rfl, rfl, rfl⟩ rfl⟩
          ·refine aord_all [4] (by kernel_rfl) rfl ?_
           refine aord_all [18] (by kernel_rfl) rfl ?_
           refine And.intro (by first | exact app_le (by first | omega | (simp only [List.length_cons, List.length_nil]; omega) | (simp; omega)) (by decide) | omega | assumption | decide | (simp only [Int.toNat_natCast, dflt_sl, dflt_st, dflt_str, dflt_int, dflt_bool]; omega) | (simp <;> omega)) ?_
           refine aord_light 19 rfl rfl rfl (by kernel_rfl) ?_
           refine aord_light 20 rfl rfl rfl (by kernel_rfl) ?_
           refine aord_all [21] (by kernel_rfl) rfl ?_
           refine aord_done (by kernel_rfl) ?_
           exact ⟨(), trivial, le_of rfl ⟨rfl, rfl, rfl, rfl, rfl⟩ rfl⟩
       ·refine aord_all [4, 10] (by kernel_rfl) rfl ?_
        refine And.intro ?_ ?_
        ·refine aord_all [10] (by kernel_rfl) rfl ?_
         refine Or.inl ?_
         refine And.intro (rfl) ?_
         refine Exists.intro _ (And.intro (join_c q.blk ⟨#[10]⟩ (Nat.le_trans hb2.blk (by decide)) (Nat.le_trans (join_sz q.blk) (by have := hb2.blk; have := hb2.blb; omega))) ?_)
         refine aord_light 11 rfl rfl rfl (by kernel_rfl) ?_
         refine And.intro (by (have hk0 : ByteArray.size { data := #[10] } = 1 := rfl; first | (unfold maxLen; omega) | (simp only []; omega) | (unfold maxLen; (try simp only []); omega))) ?_
         refine aord_all [16] (by kernel_rfl) rfl ?_
         refine aord_all [17] (by kernel_rfl) rfl ?_
         refine aord_all [18] (by kernel_rfl) rfl ?_
         refine And.intro (by first | exact app_le (by first | omega | (simp only [List.length_cons, List.length_nil]; omega) | (simp; omega)) (by decide) | omega | assumption | decide | (simp only [Int.toNat_natCast, dflt_sl, dflt_st, dflt_str, dflt_int, dflt_bool]; omega) | (simp <;> omega)) ?_
         refine aord_light 19 rfl rfl rfl (by kernel_rfl) ?_
         refine aord_light 20 rfl rfl rfl (by kernel_rfl) ?_
         refine aord_all [21] (by kernel_rfl) rfl ?_
         refine aord_done (by kernel_rfl) ?_
         exact ⟨(), trivial, le_of rfl ⟨rfl, rfl, rfl, rfl, rfl⟩ rfl⟩
        ·refine Or.inl ?_
         refine And.intro (rfl) ?_
         refine Exists.intro _ (And.intro (join_c q.blk ⟨#[10]⟩ (Nat.le_trans hb2.blk (by decide)) (Nat.le_trans (join_sz q.blk) (by have := hb2.blk; have := hb2.blb; omega))) ?_)
         refine aord_light 11 rfl rfl rfl (by kernel_rfl) ?_
         refine And.intro (by (have hk0 : ByteArray.size { data := #[10] } = 1 := rfl; first | (unfold maxLen; omega) | (simp only []; omega) | (unfold maxLen; (try simp only []); omega))) ?_
         refine aord_all [4, 16] (by kernel_rfl) rfl ?_
         refine And.intro ?_ ?_
         ·refine aord_all [16] (by kernel_rfl) rfl ?_
          refine aord_all [17] (by kernel_rfl) rfl ?_
          refine aord_all [18] (by kernel_rfl) rfl ?_
          refine And.intro (by first | exact app_le (by first | omega | (simp only [List.length_cons, List.length_nil]; omega) | (simp; omega)) (by decide) | omega | assumption | decide | (simp only [Int.toNat_natCast, dflt_sl, dflt_st, dflt_str, dflt_int, dflt_bool]; omega) | (simp <;> omega)) ?_
          refine aord_light 19 rfl rfl rfl (by kernel_rfl) ?_
          refine aord_light 20 rfl rfl rfl (by kernel_rfl) ?_
          refine aord_all [21] (by kernel_rfl) rfl ?_
          refine aord_done (by kernel_rfl) ?_
          exact ⟨(), trivial, le_of rfl ⟨rfl, rfl, rfl, rfl, rfl⟩ rfl⟩
         ·refine aord_all [4, 17] (by kernel_rfl) rfl ?_
          refine And.intro ?_ ?_
          ·refine aord_all [17] (by kernel_rfl) rfl ?_
           refine aord_all [18] (by kernel_rfl) rfl ?_
           refine And.intro (by first | exact app_le (by first | omega | (simp only [List.length_cons, List.length_nil]; omega) | (simp; omega)) (by decide) | omega | assumption | decide | (simp only [Int.toNat_natCast, dflt_sl, dflt_st, dflt_str, dflt_int, dflt_bool]; omega) | (simp <;> omega)) ?_
           refine aord_light 19 rfl rfl rfl (by kernel_rfl) ?_
           refine aord_light 20 rfl rfl rfl (by kernel_rfl) ?_
           refine aord_all [21] (by kernel_rfl) rfl ?_
           refine aord_done (by kernel_rfl) ?_
           exact ⟨(), trivial, le_of rfl ⟨rfl, rfl, rfl, rfl, rfl⟩ rfl⟩
          ·refine aord_all [4] (by kernel_rfl) rfl ?_
           refine aord_all [18] (by kernel_rfl) rfl ?_
           refine And.intro (by first | exact app_le (by first | omega | (simp only [List.length_cons, List.length_nil]; omega) | (simp; omega)) (by decide) | omega | assumption | decide | (simp only [Int.toNat_natCast, dflt_sl, dflt_st, dflt_str, dflt_int, dflt_bool]; omega) | (simp <;> omega)) ?_
           refine aord_light 19 rfl rfl rfl (by kernel_rfl) ?_
           refine aord_light 20 rfl rfl rfl (by kernel_rfl) ?_
           refine aord_all [21] (by kernel_rfl) rfl ?_
           refine aord_done (by kernel_rfl) ?_
           exact ⟨(), trivial, le_of rfl ⟨rfl, rfl, rfl, rfl, rfl⟩ rfl⟩
      ·refine aord_all [4, 9] (by kernel_rfl) rfl ?_
       refine And.intro ?_ ?_
       ·refine aord_all [9] (by kernel_rfl) rfl ?_
        refine aord_all [10] (by kernel_rfl) rfl ?_
        refine Or.inl ?_
        refine And.intro (rfl) ?_
        refine Exists.intro _ (And.intro (join_c q.blk ⟨#[10]⟩ (Nat.le_trans hb2.blk (by decide)) (Nat.le_trans (join_sz q.blk) (by have := hb2.blk; have := hb2.blb; omega))) ?_)
        refine aord_light 11 rfl rfl rfl (by kernel_rfl) ?_
        refine And.intro (by (have hk0 : ByteArray.size { data := #[10] } = 1 := rfl; first | (unfold maxLen; omega) | (simp only []; omega) | (unfold maxLen; (try simp only []); omega))) ?_
        refine aord_all [16] (by kernel_rfl) rfl ?_
        refine aord_all [17] (by kernel_rfl) rfl ?_
        refine aord_all [18] (by kernel_rfl) rfl ?_
        refine And.intro (by first | exact app_le (by first | omega | (simp only [List.length_cons, List.length_nil]; omega) | (simp; omega)) (by decide) | omega | assumption | decide | (simp only [Int.toNat_natCast, dflt_sl, dflt_st, dflt_str, dflt_int, dflt_bool]; omega) | (simp <;> omega)) ?_
        refine aord_light 19 rfl rfl rfl (by kernel_rfl) ?_
        refine aord_light 20 rfl rfl rfl (by kernel_rfl) ?_
        refine aord_all [21] (by kernel_rfl) rfl ?_
        refine aord_done (by kernel_rfl) ?_
        exact ⟨(), trivial, le_of rfl ⟨rfl, rfl, rfl, rfl, rfl⟩ rfl⟩
       ·refine aord_all [4, 10] (by kernel_rfl) rfl ?_
        refine And.intro ?_ ?_
        ·refine aord_all [10] (by kernel_rfl) rfl ?_
         refine Or.inl ?_
         refine And.intro (rfl) ?_
         refine Exists.intro _ (And.intro (join_c q.blk ⟨#[10]⟩ (Nat.le_trans hb2.blk (by decide)) (Nat.le_trans (join_sz q.blk) (by have := hb2.blk; have := hb2.blb; omega))) ?_)
         refine aord_light 11 rfl rfl rfl (by kernel_rfl) ?_
         refine And.intro (by (have hk0 : ByteArray.size { data := #[10] } = 1 := rfl; first | (unfold maxLen; omega) | (simp only []; omega) | (unfold maxLen; (try simp only []); omega))) ?_
         refine aord_all [16] (by kernel_rfl) rfl ?_
         refine aord_all [17] (by kernel_rfl) rfl ?_
         refine aord_all [18] (by kernel_rfl) rfl ?_
         refine And.intro (by first | exact app_le (by first | omega | (simp only [List.length_cons, List.length_nil]; omega) | (simp; omega)) (by decide) | omega | assumption | decide | (simp only [Int.toNat_natCast, dflt_sl, dflt_st, dflt_str, dflt_int, dflt_bool]; omega) | (simp <;> omega)) ?_
         refine aord_light 19 rfl rfl rfl (by kernel_rfl) ?_
         refine aord_light 20 rfl rfl rfl (by kernel_rfl) ?_
         refine aord_all [21] (by kernel_rfl) rfl ?_
         refine aord_done (by kernel_rfl) ?_
         exact ⟨(), trivial, le_of rfl ⟨rfl, rfl, rfl, rfl, rfl⟩ rfl⟩
        ·refine Or.inl ?_
         refine And.intro (rfl) ?_
         refine Exists.intro _ (And.intro (join_c q.blk ⟨#[10]⟩ (Nat.le_trans hb2.blk (by decide)) (Nat.le_trans (join_sz q.blk) (by have := hb2.blk; have := hb2.blb; omega))) ?_)
         refine aord_light 11 rfl rfl rfl (by kernel_rfl) ?_
         refine And.intro (by (have hk0 : ByteArray.size { data := #[10] } = 1 := rfl; first | (unfold maxLen; omega) | (simp only []; omega) | (unfold maxLen; (try simp only []); omega))) ?_
         refine aord_all [4, 16] (by kernel_rfl) rfl ?_
         refine And.intro ?_ ?_
         ·refine aord_all [16] (by kernel_rfl) rfl ?_
          refine aord_all [17] (by kernel_rfl) rfl ?_
          refine aord_all [18] (by kernel_rfl) rfl ?_
          refine And.intro (by first | exact app_le (by first | omega | (simp only [List.length_cons, List.length_nil]; omega) | (simp; omega)) (by decide) | omega | assumption | decide | (simp only [Int.toNat_natCast, dflt_sl, dflt_st, dflt_str, dflt_int, dflt_bool]; omega) | (simp <;> omega)) ?_
          refine aord_light 19 rfl rfl rfl (by kernel_rfl) ?_
          refine aord_light 20 rfl rfl rfl (by kernel_rfl) ?_
          refine aord_all [21] (by kernel_rfl) rfl ?_
          refine aord_done (by kernel_rfl) ?_
          exact ⟨(), trivial, le_of rfl ⟨rfl, rfl, rfl, rfl, rfl⟩ rfl⟩
         ·refine aord_all [4, 17] (by kernel_rfl) rfl ?_
          refine And.intro ?_ ?_
          ·refine aord_all [17] (by kernel_rfl) rfl ?_
           refine aord_all [18] (by kernel_rfl) rfl ?_
           refine And.intro (by first | exact app_le (by first | omega | (simp only [List.length_cons, List.length_nil]; omega) | (simp; omega)) (by decide) | omega | assumption | decide | (simp only [Int.toNat_natCast, dflt_sl, dflt_st, dflt_str, dflt_int, dflt_bool]; omega) | (simp <;> omega)) ?_
           refine aord_light 19 rfl rfl rfl (by kernel_rfl) ?_
           refine aord_light 20 rfl rfl rfl (by kernel_rfl) ?_
           refine aord_all [21] (by kernel_rfl) rfl ?_
           refine aord_done (by kernel_rfl) ?_
           exact ⟨(), trivial, le_of rfl ⟨rfl, rfl, rfl, rfl, rfl⟩ rfl⟩
          ·refine aord_all [4] (by kernel_rfl) rfl ?_
           refine aord_all [18] (by kernel_rfl) rfl ?_
           refine And.intro (by first | exact app_le (by first | omega | (simp only [List.length_cons, List.length_nil]; omega) | (simp; omega)) (by decide) | omega | assumption | decide | (simp only [Int.toNat_natCast, dflt_sl, dflt_st, dflt_str, dflt_int, dflt_bool]; omega) | (simp <;> omega)) ?_
           refine aord_light 19 rfl rfl rfl (by kernel_rfl) ?_
           refine aord_light 20 rfl rfl rfl (by kernel_rfl) ?_
           refine aord_all [21] (by kernel_rfl) rfl ?_
           refine aord_done (by kernel_rfl) ?_
           exact ⟨(), trivial, le_of rfl ⟨rfl, rfl, rfl, rfl, rfl⟩ rfl⟩
    ·try simp only [decide_eq_false_iff_not, Int.not_lt] at h15
     try simp only [Int.toNat_natCast, dflt_sl, dflt_st, dflt_str, dflt_int, dflt_bool] at h15
     exact absurd (List.eq_nil_of_length_eq_zero (by omega)) hq
   ·intro u hcut10
    refine acode_seq ?_
    refine acode_region ?_
    refine acode_seq ?_
    refine acode_nilcell 0 4 9 .str rfl rfl rfl ?_
    refine acode_swap 3 5 rfl rfl ?_
    refine acode_nilcell 0 5 57 rFld rfl rfl rfl ?_
    refine acode_swap 4 6 rfl rfl ?_
    refine acode_region ?_
    refine acode_ret ?_
    exact ⟨rfl, ⟨rfl, rfl, rfl, rfl, rfl⟩, rfl⟩
theorem end_ok {p q : PSt} (h : endS p = .inr q) (hb : PB p 1000000) : ACallO Tryd.prog 43 [.one (.own 0 0)] (psO p) 5 (.one (.lit .nilIface)) (psO q) 5 := by
  unfold endS at h
  split at h
  · cases h
  · rename_i r e
    cases h
    have hb2 : PB r 2000000 := (flushS_B hb e).mono (by decide)
    unfold closeS
    split
    · rename_i h0; exact end_nil e h0 hb
    · rename_i h0; exact end_blk e h0 hb hb2
theorem end_err {p : PSt} {at_ n : Int} (h : endS p = .inl (at_, n)) (hb : PB p 1000000) : ACallO Tryd.prog 43 [.one (.own 0 0)] (psO p) 5 (.one (errF at_ n)) [] 5 := by
  have h : flushS p = .inl (at_, n) := by
    unfold endS at h
    split at h
    · rename_i e; cases h; exact e
    · cases h
  refine acallo_of (rs := [2]) Tryd.func43 rfl rfl rfl teOk (by decide) rfl ?_
  refine acode_seq ?_
  refine acode_region ?_
  refine acode_seq ?_
  refine acode_seq ?_
  refine acode_region ?_
  refine Or.inr (Or.inl (Exists.intro [] (Exists.intro [0, 1, 2, 3, 4] (Exists.intro _ (Exists.intro _ (Exists.intro _ (Exists.intro _ (Exists.intro _ (And.intro (flush_err h hb) (And.intro rfl (And.intro (And.intro (And.intro rfl rfl) (And.intro (And.intro rfl rfl) (And.intro (And.intro rfl rfl) (And.intro (And.intro rfl rfl) (And.intro (And.intro rfl rfl) True.intro))))) (And.intro rfl ?_))))))))))))
  refine acode_seq ?_
  refine acode_region ?_
  refine acode_cond rfl (fun h8 => ?_) (fun h8 => ?_)
  ·skip
   refine acode_seq ?_
   refine acode_region ?_
   refine acode_ret ?_
   exact ⟨rfl, trivial, rfl⟩
  ·try simp only [decide_eq_true_eq, decide_eq_false_iff_not, Bool.and_eq_true, Bool.not_eq_true', Bool.not_eq_false', Bool.or_eq_false_iff, Bool.or_eq_true, Bool.and_eq_false_iff, Int.not_lt, Int.not_le] at h8
   try simp only [Int.toNat_natCast, dflt_sl, dflt_st, dflt_str, dflt_int, dflt_bool] at h8
   cases h8
end Q
end Ab
end Go.Proofs.YtlbainbjlibfiaaDoor
