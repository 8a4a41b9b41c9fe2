/-
  The texts of this proof, joined: abstract values, the library, the functions of the program and what they compute (part 3). No condition.
-/
import Derived.Test.YtklhlkhlndhepaaGreatDoorRows
import Derived.Lib.Strings
import Derived.Lib.Slices
import Derived.Lib.Walk
import Derived.Lib.Builder
import Derived.Lib.AppendStr
import Derived.Lib.OthersKept
import Derived.WalkKit
import Derived.Laws.Externs
import Derived.Laws.IdiomCopy
import Derived.Lib.UnsafeStr
import Derived.Shelf.RegionOpenPlain
import Derived.Shelf.Strings.Builder1
import Derived.Shelf.Strings.Builder2
import Derived.Shelf.Strings.OnBuilder
import Derived.Shelf.Strings.Trim
import Derived.Shelf.Small.Utf8
import Derived.Shelf.Small.Strs
import Derived.Shelf.Small.Wraps
import Derived.Shelf.Strings.BuilderF
import Derived.Shelf.Strings.BuilderK
import Derived.Shelf.Strings.Builder2Cap
import Derived.Shelf.Strings.Search1
import Derived.Shelf.Strings.Search2
import Derived.Shelf.Strings.Search3
import Derived.Shelf.Strings.Cut
import Derived.Shelf.Strings.Count
import Derived.Shelf.LaysM
import Derived.Shelf.Strings.Shaped
import Derived.Shelf.Strings.Prefix
import Derived.Shelf.Strings.Split
import Derived.Shelf.Strings.SplitShaped
import Derived.Shelf.Strings.Runes
import Derived.Shelf.Strings.AsciiSet
import Derived.Shelf.Unicode.DecodeSlow
import Derived.Shelf.Unicode.DecodeAny
import Derived.Shelf.Strings.BuilderCap
import Derived.Test.YtklhlkhlndhepaaGreatDoorProg
import Derived.Lib.SplitLaws
import Derived.Shelf.Strings.SlTrimAscii
import Derived.Lib.Join
import Derived.Lib.SlTrimSet
import Derived.Test.YtklhlkhlndhepaaGreatDoorK1
import Derived.Test.YtklhlkhlndhepaaGreatDoorK2
namespace Go.Proofs.YtklhlkhlndhepaaGreatDoor
open Go.RowKit
namespace Ab

def ty3 : TyI := ⟨.int .i64, 1, 8, [.int .i64 0], some ⟨_, (.int .i64)⟩, true⟩
theorem tyOk3 : TyOk Tryz.prog 3 ty3 := tyOk_of (by kernel_rfl) Tryz.underlying3 rfl (by decide) rfl (fun _ _ h => by cases h; rfl) (fun _ => by kernel_rfl)
def ty9 : TyI := ⟨.str, 1, 16, [.string ⟨#[]⟩], some ⟨_, .str⟩, true⟩
theorem tyOk9 : TyOk Tryz.prog 9 ty9 := tyOk_of (by kernel_rfl) Tryz.underlying9 rfl (by decide) rfl (fun _ _ h => by cases h; rfl) (fun _ => by kernel_rfl)
def ty55 : TyI := ⟨.struct [(0, 53), (1, 3)], 2, 32, [.slice none 0 0, .int .i64 0], some ⟨_, (.st (.sl (.st (.st (.int .i64) (.st .str (.sl (.st .str .str)))) (.int .i64))) (.int .i64))⟩, false⟩
theorem tyOk55 : TyOk Tryz.prog 55 ty55 := tyOk_of (by kernel_rfl) ⟨by kernel_rfl, by kernel_rfl, by kernel_rfl, by kernel_rfl, by kernel_rfl⟩ rfl (by decide) rfl (fun _ _ h => by cases h; rfl) (fun h => by cases h)
def ty25 : TyI := ⟨.slice 91, 1, 24, [.slice none 0 0], some ⟨_, (.sl (.st .str .str))⟩, false⟩
theorem tyOk25 : TyOk Tryz.prog 25 ty25 := tyOk_of (by kernel_rfl) Tryz.underlying25 rfl (by decide) rfl (fun _ _ h => by cases h; rfl) (fun h => by cases h)
def ty71 : TyI := ⟨.slice 9, 1, 24, [.slice none 0 0], some ⟨_, (.sl .str)⟩, false⟩
theorem tyOk71 : TyOk Tryz.prog 71 ty71 := tyOk_of (by kernel_rfl) Tryz.underlying71 rfl (by decide) rfl (fun _ _ h => by cases h; rfl) (fun h => by cases h)
def ty73 : TyI := ⟨.struct [(0, 3), (1, 9), (2, 25)], 3, 48, [.int .i64 0, .string ⟨#[]⟩, .slice none 0 0], some ⟨_, (.st (.int .i64) (.st .str (.sl (.st .str .str))))⟩, false⟩
theorem tyOk73 : TyOk Tryz.prog 73 ty73 := tyOk_of (by kernel_rfl) ⟨by kernel_rfl, by kernel_rfl, by kernel_rfl, by kernel_rfl, by kernel_rfl⟩ rfl (by decide) rfl (fun _ _ h => by cases h; rfl) (fun h => by cases h)
def ty27 : TyI := ⟨.struct [(0, 3), (1, 25)], 2, 32, [.int .i64 0, .slice none 0 0], some ⟨_, (.st (.int .i64) (.sl (.st .str .str)))⟩, false⟩
theorem tyOk27 : TyOk Tryz.prog 27 ty27 := tyOk_of (by kernel_rfl) ⟨by kernel_rfl, by kernel_rfl, by kernel_rfl, by kernel_rfl, by kernel_rfl⟩ rfl (by decide) rfl (fun _ _ h => by cases h; rfl) (fun h => by cases h)
def ty5 : TyI := ⟨.int .u8, 1, 1, [.int .u8 0], some ⟨_, (.int .u8)⟩, true⟩
theorem tyOk5 : TyOk Tryz.prog 5 ty5 := tyOk_of (by kernel_rfl) Tryz.underlying5 rfl (by decide) rfl (fun _ _ h => by cases h; rfl) (fun _ => by kernel_rfl)
def ty111 : TyI := ⟨.slice 115, 1, 24, [.slice none 0 0], some ⟨_, (.sl (.st (.st (.int .i64) (.st .str (.sl (.st .str .str)))) (.int .i64)))⟩, false⟩
theorem tyOk111 : TyOk Tryz.prog 111 ty111 := tyOk_of (by kernel_rfl) Tryz.underlying111 rfl (by decide) rfl (fun _ _ h => by cases h; rfl) (fun h => by cases h)
def ty36 : TyI := ⟨.slice 27, 1, 24, [.slice none 0 0], some ⟨_, (.sl (.st (.int .i64) (.sl (.st .str .str))))⟩, false⟩
theorem tyOk36 : TyOk Tryz.prog 36 ty36 := tyOk_of (by kernel_rfl) Tryz.underlying36 rfl (by decide) rfl (fun _ _ h => by cases h; rfl) (fun h => by cases h)
def ty91 : TyI := ⟨.struct [(0, 9), (1, 9)], 2, 32, [.string ⟨#[]⟩, .string ⟨#[]⟩], some ⟨_, (.st .str .str)⟩, true⟩
theorem tyOk91 : TyOk Tryz.prog 91 ty91 := tyOk_of (by kernel_rfl) ⟨by kernel_rfl, by kernel_rfl, by kernel_rfl, by kernel_rfl, by kernel_rfl⟩ rfl (by decide) rfl (fun _ _ h => by cases h; rfl) (fun _ => by kernel_rfl)
def ty69 : TyI := ⟨.slice 73, 1, 24, [.slice none 0 0], some ⟨_, (.sl (.st (.int .i64) (.st .str (.sl (.st .str .str)))))⟩, false⟩
theorem tyOk69 : TyOk Tryz.prog 69 ty69 := tyOk_of (by kernel_rfl) Tryz.underlying69 rfl (by decide) rfl (fun _ _ h => by cases h; rfl) (fun h => by cases h)
def ty4 : TyI := ⟨.bool, 1, 1, [.bool false], some ⟨_, .bool⟩, true⟩
theorem tyOk4 : TyOk Tryz.prog 4 ty4 := tyOk_of (by kernel_rfl) Tryz.underlying4 rfl (by decide) rfl (fun _ _ h => by cases h; rfl) (fun _ => by kernel_rfl)
def ty40 : TyI := ⟨.ptr 113, 1, 8, [.pointer none], none, false⟩
theorem tyOk40 : TyOk Tryz.prog 40 ty40 := tyOk_of (by kernel_rfl) Tryz.underlying40 rfl (by decide) rfl (fun _ _ h => by cases h) (fun h => by cases h)
def ty53 : TyI := ⟨.slice 125, 1, 24, [.slice none 0 0], some ⟨_, (.sl (.st (.st (.int .i64) (.st .str (.sl (.st .str .str)))) (.int .i64)))⟩, false⟩
theorem tyOk53 : TyOk Tryz.prog 53 ty53 := tyOk_of (by kernel_rfl) Tryz.underlying53 rfl (by decide) rfl (fun _ _ h => by cases h; rfl) (fun h => by cases h)
def ty42 : TyI := ⟨.iface, 1, 16, [.nilIface], some ⟨_, .raw⟩, false⟩
theorem tyOk42 : TyOk Tryz.prog 42 ty42 := tyOk_of (by kernel_rfl) ⟨_, Tryz.underlying42⟩ rfl (by decide) rfl (fun _ _ h => by cases h; rfl) (fun h => by cases h)
def ty32 : TyI := ⟨.slice 116, 1, 24, [.slice none 0 0], some ⟨_, (.sl (.sl (.st .bool (.st .str (.st (.int .i64) .str)))))⟩, false⟩
theorem tyOk32 : TyOk Tryz.prog 32 ty32 := tyOk_of (by kernel_rfl) Tryz.underlying32 rfl (by decide) rfl (fun _ _ h => by cases h; rfl) (fun h => by cases h)
def ty21 : TyI := ⟨.int .i32, 1, 4, [.int .i32 0], some ⟨_, (.int .i32)⟩, true⟩
theorem tyOk21 : TyOk Tryz.prog 21 ty21 := tyOk_of (by kernel_rfl) Tryz.underlying21 rfl (by decide) rfl (fun _ _ h => by cases h; rfl) (fun _ => by kernel_rfl)
def ty65 : TyI := ⟨.struct [(0, 3), (1, 3), (2, 25)], 3, 40, [.int .i64 0, .int .i64 0, .slice none 0 0], some ⟨_, (.st (.int .i64) (.st (.int .i64) (.sl (.st .str .str))))⟩, false⟩
theorem tyOk65 : TyOk Tryz.prog 65 ty65 := tyOk_of (by kernel_rfl) ⟨by kernel_rfl, by kernel_rfl, by kernel_rfl, by kernel_rfl, by kernel_rfl⟩ rfl (by decide) rfl (fun _ _ h => by cases h; rfl) (fun h => by cases h)
def ty117 : TyI := ⟨.struct [(0, 4), (1, 9), (2, 3), (3, 9)], 4, 48, [.bool false, .string ⟨#[]⟩, .int .i64 0, .string ⟨#[]⟩], some ⟨_, (.st .bool (.st .str (.st (.int .i64) .str)))⟩, true⟩
theorem tyOk117 : TyOk Tryz.prog 117 ty117 := tyOk_of (by kernel_rfl) ⟨by kernel_rfl, by kernel_rfl, by kernel_rfl, by kernel_rfl, by kernel_rfl⟩ rfl (by decide) rfl (fun _ _ h => by cases h; rfl) (fun _ => by kernel_rfl)
def ty23 : TyI := ⟨.ptr 98, 1, 8, [.pointer none], none, false⟩
theorem tyOk23 : TyOk Tryz.prog 23 ty23 := tyOk_of (by kernel_rfl) Tryz.underlying23 rfl (by decide) rfl (fun _ _ h => by cases h) (fun h => by cases h)
def ty46 : TyI := ⟨.slice 3, 1, 24, [.slice none 0 0], some ⟨_, (.sl (.int .i64))⟩, false⟩
theorem tyOk46 : TyOk Tryz.prog 46 ty46 := tyOk_of (by kernel_rfl) Tryz.underlying46 rfl (by decide) rfl (fun _ _ h => by cases h; rfl) (fun h => by cases h)
def ty225 : TyI := ⟨.struct [(0, 222), (1, 223)], 2, 32, [.pointer none, .slice none 0 0], none, false⟩
theorem tyOk225 : TyOk Tryz.prog 225 ty225 := tyOk_of (by kernel_rfl) ⟨by kernel_rfl, by kernel_rfl, by kernel_rfl, by kernel_rfl, by kernel_rfl⟩ rfl (by decide) rfl (fun _ _ h => by cases h) (fun h => by cases h)
def ty108 : TyI := ⟨.struct [(0, 4), (1, 9), (2, 3), (3, 9)], 4, 48, [.bool false, .string ⟨#[]⟩, .int .i64 0, .string ⟨#[]⟩], some ⟨_, (.st .bool (.st .str (.st (.int .i64) .str)))⟩, true⟩
theorem tyOk108 : TyOk Tryz.prog 108 ty108 := tyOk_of (by kernel_rfl) ⟨by kernel_rfl, by kernel_rfl, by kernel_rfl, by kernel_rfl, by kernel_rfl⟩ rfl (by decide) rfl (fun _ _ h => by cases h; rfl) (fun _ => by kernel_rfl)
def ty113 : TyI := ⟨.struct [(0, 111), (1, 3), (2, 3)], 3, 40, [.slice none 0 0, .int .i64 0, .int .i64 0], some ⟨_, (.st (.sl (.st (.st (.int .i64) (.st .str (.sl (.st .str .str)))) (.int .i64))) (.st (.int .i64) (.int .i64)))⟩, false⟩
theorem tyOk113 : TyOk Tryz.prog 113 ty113 := tyOk_of (by kernel_rfl) ⟨by kernel_rfl, by kernel_rfl, by kernel_rfl, by kernel_rfl, by kernel_rfl⟩ rfl (by decide) rfl (fun _ _ h => by cases h; rfl) (fun h => by cases h)
def ty115 : TyI := ⟨.struct [(0, 73), (3, 3)], 4, 56, [.int .i64 0, .string ⟨#[]⟩, .slice none 0 0, .int .i64 0], some ⟨_, (.st (.st (.int .i64) (.st .str (.sl (.st .str .str)))) (.int .i64))⟩, false⟩
theorem tyOk115 : TyOk Tryz.prog 115 ty115 := tyOk_of (by kernel_rfl) ⟨by kernel_rfl, by kernel_rfl, by kernel_rfl, by kernel_rfl, by kernel_rfl⟩ rfl (by decide) rfl (fun _ _ h => by cases h; rfl) (fun h => by cases h)
def ty141 : TyI := ⟨.struct [(0, 139), (3, 69), (4, 71), (5, 25), (6, 3)], 7, 120, [.slice none 0 0, .int .i64 0, .bool false, .slice none 0 0, .slice none 0 0, .slice none 0 0, .int .i64 0], some ⟨_, (.st (.st (.sl .str) (.st (.int .i64) .bool)) (.st (.sl (.st (.int .i64) (.st .str (.sl (.st .str .str))))) (.st (.sl .str) (.st (.sl (.st .str .str)) (.int .i64)))))⟩, false⟩
theorem tyOk141 : TyOk Tryz.prog 141 ty141 := tyOk_of (by kernel_rfl) ⟨by kernel_rfl, by kernel_rfl, by kernel_rfl, by kernel_rfl, by kernel_rfl⟩ rfl (by decide) rfl (fun _ _ h => by cases h; rfl) (fun h => by cases h)
def ty116 : TyI := ⟨.slice 117, 1, 24, [.slice none 0 0], some ⟨_, (.sl (.st .bool (.st .str (.st (.int .i64) .str))))⟩, false⟩
theorem tyOk116 : TyOk Tryz.prog 116 ty116 := tyOk_of (by kernel_rfl) Tryz.underlying116 rfl (by decide) rfl (fun _ _ h => by cases h; rfl) (fun h => by cases h)
def ty146 : TyI := ⟨.struct [(0, 3), (1, 3), (2, 9), (3, 4)], 4, 40, [.int .i64 0, .int .i64 0, .string ⟨#[]⟩, .bool false], some ⟨_, (.st (.int .i64) (.st (.int .i64) (.st .str .bool)))⟩, true⟩
theorem tyOk146 : TyOk Tryz.prog 146 ty146 := tyOk_of (by kernel_rfl) ⟨by kernel_rfl, by kernel_rfl, by kernel_rfl, by kernel_rfl, by kernel_rfl⟩ rfl (by decide) rfl (fun _ _ h => by cases h; rfl) (fun _ => by kernel_rfl)
def ty223 : TyI := ⟨.slice 5, 1, 24, [.slice none 0 0], some ⟨_, (.sl (.int .u8))⟩, false⟩
theorem tyOk223 : TyOk Tryz.prog 223 ty223 := tyOk_of (by kernel_rfl) Tryz.underlying223 rfl (by decide) rfl (fun _ _ h => by cases h; rfl) (fun h => by cases h)
def ty125 : TyI := ⟨.struct [(0, 73), (3, 3)], 4, 56, [.int .i64 0, .string ⟨#[]⟩, .slice none 0 0, .int .i64 0], some ⟨_, (.st (.st (.int .i64) (.st .str (.sl (.st .str .str)))) (.int .i64))⟩, false⟩
theorem tyOk125 : TyOk Tryz.prog 125 ty125 := tyOk_of (by kernel_rfl) ⟨by kernel_rfl, by kernel_rfl, by kernel_rfl, by kernel_rfl, by kernel_rfl⟩ rfl (by decide) rfl (fun _ _ h => by cases h; rfl) (fun h => by cases h)
def ty98 : TyI := ⟨.struct [(0, 32), (1, 36), (2, 3)], 3, 56, [.slice none 0 0, .slice none 0 0, .int .i64 0], some ⟨_, (.st (.sl (.sl (.st .bool (.st .str (.st (.int .i64) .str))))) (.st (.sl (.st (.int .i64) (.sl (.st .str .str)))) (.int .i64)))⟩, false⟩
theorem tyOk98 : TyOk Tryz.prog 98 ty98 := tyOk_of (by kernel_rfl) ⟨by kernel_rfl, by kernel_rfl, by kernel_rfl, by kernel_rfl, by kernel_rfl⟩ rfl (by decide) rfl (fun _ _ h => by cases h; rfl) (fun h => by cases h)
def ty93 : TyI := ⟨.int .i64, 1, 8, [.int .i64 0], some ⟨_, (.int .i64)⟩, true⟩
theorem tyOk93 : TyOk Tryz.prog 93 ty93 := tyOk_of (by kernel_rfl) Tryz.underlying93 rfl (by decide) rfl (fun _ _ h => by cases h; rfl) (fun _ => by kernel_rfl)
def ty181 : TyI := ⟨.slice 184, 1, 24, [.slice none 0 0], some ⟨_, (.sl (.st (.int .i64) (.st (.int .i64) (.st .str .bool))))⟩, false⟩
theorem tyOk181 : TyOk Tryz.prog 181 ty181 := tyOk_of (by kernel_rfl) Tryz.underlying181 rfl (by decide) rfl (fun _ _ h => by cases h; rfl) (fun h => by cases h)
def ty38 : TyI := ⟨.slice 106, 1, 24, [.slice none 0 0], some ⟨_, (.sl (.sl (.st .bool (.st .str (.st (.int .i64) .str)))))⟩, false⟩
theorem tyOk38 : TyOk Tryz.prog 38 ty38 := tyOk_of (by kernel_rfl) Tryz.underlying38 rfl (by decide) rfl (fun _ _ h => by cases h; rfl) (fun h => by cases h)
def ty106 : TyI := ⟨.slice 108, 1, 24, [.slice none 0 0], some ⟨_, (.sl (.st .bool (.st .str (.st (.int .i64) .str))))⟩, false⟩
theorem tyOk106 : TyOk Tryz.prog 106 ty106 := tyOk_of (by kernel_rfl) Tryz.underlying106 rfl (by decide) rfl (fun _ _ h => by cases h; rfl) (fun h => by cases h)
def ty60 : TyI := ⟨.slice 65, 1, 24, [.slice none 0 0], some ⟨_, (.sl (.st (.int .i64) (.st (.int .i64) (.sl (.st .str .str)))))⟩, false⟩
theorem tyOk60 : TyOk Tryz.prog 60 ty60 := tyOk_of (by kernel_rfl) Tryz.underlying60 rfl (by decide) rfl (fun _ _ h => by cases h; rfl) (fun h => by cases h)
def ty263 : TyI := ⟨.int .u32, 1, 4, [.int .u32 0], some ⟨_, (.int .u32)⟩, true⟩
theorem tyOk263 : TyOk Tryz.prog 263 ty263 := tyOk_of (by kernel_rfl) Tryz.underlying263 rfl (by decide) rfl (fun _ _ h => by cases h; rfl) (fun _ => by kernel_rfl)
def ty137 : TyI := ⟨.ptr 141, 1, 8, [.pointer none], none, false⟩
theorem tyOk137 : TyOk Tryz.prog 137 ty137 := tyOk_of (by kernel_rfl) Tryz.underlying137 rfl (by decide) rfl (fun _ _ h => by cases h) (fun h => by cases h)
def ty139 : TyI := ⟨.struct [(0, 71), (1, 3), (2, 4)], 3, 40, [.slice none 0 0, .int .i64 0, .bool false], some ⟨_, (.st (.sl .str) (.st (.int .i64) .bool))⟩, false⟩
theorem tyOk139 : TyOk Tryz.prog 139 ty139 := tyOk_of (by kernel_rfl) ⟨by kernel_rfl, by kernel_rfl, by kernel_rfl, by kernel_rfl, by kernel_rfl⟩ rfl (by decide) rfl (fun _ _ h => by cases h; rfl) (fun h => by cases h)
def ty222 : TyI := ⟨.ptr 225, 1, 8, [.pointer none], none, false⟩
theorem tyOk222 : TyOk Tryz.prog 222 ty222 := tyOk_of (by kernel_rfl) Tryz.underlying222 rfl (by decide) rfl (fun _ _ h => by cases h) (fun h => by cases h)
def ty269 : TyI := ⟨.struct [(0, 5), (1, 5)], 2, 2, [.int .u8 0, .int .u8 0], some ⟨_, (.st (.int .u8) (.int .u8))⟩, true⟩
theorem tyOk269 : TyOk Tryz.prog 269 ty269 := tyOk_of (by kernel_rfl) ⟨by kernel_rfl, by kernel_rfl, by kernel_rfl, by kernel_rfl, by kernel_rfl⟩ rfl (by decide) rfl (fun _ _ h => by cases h; rfl) (fun _ => by kernel_rfl)
def ty184 : TyI := ⟨.struct [(0, 3), (1, 3), (2, 9), (3, 4)], 4, 40, [.int .i64 0, .int .i64 0, .string ⟨#[]⟩, .bool false], some ⟨_, (.st (.int .i64) (.st (.int .i64) (.st .str .bool)))⟩, true⟩
theorem tyOk184 : TyOk Tryz.prog 184 ty184 := tyOk_of (by kernel_rfl) ⟨by kernel_rfl, by kernel_rfl, by kernel_rfl, by kernel_rfl, by kernel_rfl⟩ rfl (by decide) rfl (fun _ _ h => by cases h; rfl) (fun _ => by kernel_rfl)
def ty159 : TyI := ⟨.struct [(0, 3), (1, 42)], 2, 24, [.int .i64 0, .nilIface], some ⟨_, (.st (.int .i64) .raw)⟩, false⟩
theorem tyOk159 : TyOk Tryz.prog 159 ty159 := tyOk_of (by kernel_rfl) ⟨by kernel_rfl, by kernel_rfl, by kernel_rfl, by kernel_rfl, by kernel_rfl⟩ rfl (by decide) rfl (fun _ _ h => by cases h; rfl) (fun h => by cases h)
def ty63 : TyI := ⟨.slice 4, 1, 24, [.slice none 0 0], some ⟨_, (.sl .bool)⟩, false⟩
theorem tyOk63 : TyOk Tryz.prog 63 ty63 := tyOk_of (by kernel_rfl) Tryz.underlying63 rfl (by decide) rfl (fun _ _ h => by cases h; rfl) (fun h => by cases h)
def ty79 : TyI := ⟨.slice 25, 1, 24, [.slice none 0 0], some ⟨_, (.sl (.sl (.st .str .str)))⟩, false⟩
theorem tyOk79 : TyOk Tryz.prog 79 ty79 := tyOk_of (by kernel_rfl) Tryz.underlying79 rfl (by decide) rfl (fun _ _ h => by cases h; rfl) (fun h => by cases h)
def ty156 : TyI := ⟨.ptr 159, 1, 8, [.pointer none], none, false⟩
theorem tyOk156 : TyOk Tryz.prog 156 ty156 := tyOk_of (by kernel_rfl) Tryz.underlying156 rfl (by decide) rfl (fun _ _ h => by cases h) (fun h => by cases h)
def ty170 : TyI := ⟨.other, 1, 8, [.nilFunc], none, false⟩
theorem tyOk170 : TyOk Tryz.prog 170 ty170 := tyOk_of (by kernel_rfl) ⟨_, Tryz.underlying170, trivial⟩ rfl (by decide) rfl (fun _ _ h => by cases h) (fun h => by cases h)
def ty105 : TyI := ⟨.slice 110, 1, 24, [.slice none 0 0], some ⟨_, (.sl (.st (.int .i64) (.st (.int .i64) (.st (.int .i64) (.st (.int .i64) (.sl (.st .str .str)))))))⟩, false⟩
theorem tyOk105 : TyOk Tryz.prog 105 ty105 := tyOk_of (by kernel_rfl) Tryz.underlying105 rfl (by decide) rfl (fun _ _ h => by cases h; rfl) (fun h => by cases h)
def ty110 : TyI := ⟨.struct [(0, 3), (1, 3), (2, 65)], 5, 56, [.int .i64 0, .int .i64 0, .int .i64 0, .int .i64 0, .slice none 0 0], some ⟨_, (.st (.int .i64) (.st (.int .i64) (.st (.int .i64) (.st (.int .i64) (.sl (.st .str .str))))))⟩, false⟩
theorem tyOk110 : TyOk Tryz.prog 110 ty110 := tyOk_of (by kernel_rfl) ⟨by kernel_rfl, by kernel_rfl, by kernel_rfl, by kernel_rfl, by kernel_rfl⟩ rfl (by decide) rfl (fun _ _ h => by cases h; rfl) (fun h => by cases h)
def ty249 : TyI := ⟨.ptr 245, 1, 8, [.pointer none], none, false⟩
theorem tyOk249 : TyOk Tryz.prog 249 ty249 := tyOk_of (by kernel_rfl) Tryz.underlying249 rfl (by decide) rfl (fun _ _ h => by cases h) (fun h => by cases h)
def ty166 : TyI := ⟨.other, 1, 8, [.nilFunc], none, false⟩
theorem tyOk166 : TyOk Tryz.prog 166 ty166 := tyOk_of (by kernel_rfl) ⟨_, Tryz.underlying166, trivial⟩ rfl (by decide) rfl (fun _ _ h => by cases h) (fun h => by cases h)
def ty173 : TyI := ⟨.other, 1, 8, [.nilFunc], none, false⟩
theorem tyOk173 : TyOk Tryz.prog 173 ty173 := tyOk_of (by kernel_rfl) ⟨_, Tryz.underlying173, trivial⟩ rfl (by decide) rfl (fun _ _ h => by cases h) (fun h => by cases h)
def ty208 : TyI := ⟨.other, 1, 8, [.nilFunc], none, false⟩
theorem tyOk208 : TyOk Tryz.prog 208 ty208 := tyOk_of (by kernel_rfl) ⟨_, Tryz.underlying208, trivial⟩ rfl (by decide) rfl (fun _ _ h => by cases h) (fun h => by cases h)
def ty175 : TyI := ⟨.other, 1, 8, [.nilFunc], none, false⟩
theorem tyOk175 : TyOk Tryz.prog 175 ty175 := tyOk_of (by kernel_rfl) ⟨_, Tryz.underlying175, trivial⟩ rfl (by decide) rfl (fun _ _ h => by cases h) (fun h => by cases h)
def ty242 : TyI := ⟨.ptr 5, 1, 8, [.pointer none], none, false⟩
theorem tyOk242 : TyOk Tryz.prog 242 ty242 := tyOk_of (by kernel_rfl) Tryz.underlying242 rfl (by decide) rfl (fun _ _ h => by cases h) (fun h => by cases h)

def te : List (TypeId × TyI) := [(3, ty3), (9, ty9), (55, ty55), (25, ty25), (71, ty71), (73, ty73), (27, ty27), (5, ty5), (111, ty111), (36, ty36), (91, ty91), (69, ty69), (4, ty4), (40, ty40), (53, ty53), (42, ty42), (32, ty32), (21, ty21), (65, ty65), (117, ty117), (23, ty23), (46, ty46), (225, ty225), (108, ty108), (113, ty113), (115, ty115), (141, ty141), (116, ty116), (146, ty146), (223, ty223), (125, ty125), (98, ty98), (93, ty93), (181, ty181), (38, ty38), (106, ty106), (60, ty60), (263, ty263), (137, ty137), (139, ty139), (222, ty222), (269, ty269), (184, ty184), (159, ty159), (63, ty63), (79, ty79), (156, ty156), (170, ty170), (105, ty105), (110, ty110), (249, ty249), (166, ty166), (173, ty173), (208, ty208), (175, ty175), (242, ty242)]
theorem teOk : TEok Tryz.prog te := by
  intro p hp
  simp only [te, List.mem_cons, List.not_mem_nil, or_false] at hp
  rcases hp with rfl | rfl | rfl | rfl | rfl | rfl | rfl | rfl | rfl | rfl | rfl | rfl | rfl | rfl | rfl | rfl | rfl | rfl | rfl | rfl | rfl | rfl | rfl | rfl | rfl | rfl | rfl | rfl | rfl | rfl | rfl | rfl | rfl | rfl | rfl | rfl | rfl | rfl | rfl | rfl | rfl | rfl | rfl | rfl | rfl | rfl | rfl | rfl | rfl | rfl | rfl | rfl | rfl | rfl | rfl | rfl
  · exact tyOk3
  · exact tyOk9
  · exact tyOk55
  · exact tyOk25
  · exact tyOk71
  · exact tyOk73
  · exact tyOk27
  · exact tyOk5
  · exact tyOk111
  · exact tyOk36
  · exact tyOk91
  · exact tyOk69
  · exact tyOk4
  · exact tyOk40
  · exact tyOk53
  · exact tyOk42
  · exact tyOk32
  · exact tyOk21
  · exact tyOk65
  · exact tyOk117
  · exact tyOk23
  · exact tyOk46
  · exact tyOk225
  · exact tyOk108
  · exact tyOk113
  · exact tyOk115
  · exact tyOk141
  · exact tyOk116
  · exact tyOk146
  · exact tyOk223
  · exact tyOk125
  · exact tyOk98
  · exact tyOk93
  · exact tyOk181
  · exact tyOk38
  · exact tyOk106
  · exact tyOk60
  · exact tyOk263
  · exact tyOk137
  · exact tyOk139
  · exact tyOk222
  · exact tyOk269
  · exact tyOk184
  · exact tyOk159
  · exact tyOk63
  · exact tyOk79
  · exact tyOk156
  · exact tyOk170
  · exact tyOk105
  · exact tyOk110
  · exact tyOk249
  · exact tyOk166
  · exact tyOk173
  · exact tyOk208
  · exact tyOk175
  · exact tyOk242

end Ab
end Go.Proofs.YtklhlkhlndhepaaGreatDoor
namespace Go.Proofs.YtklhlkhlndhepaaGreatDoor
open Go.RowKit
namespace Bld
set_option maxRecDepth 100000
set_option maxHeartbeats 1000000

/-- A builder of this program. -/
abbrev IsB (B b : Nat) (bs : List Value) (w : World) : Prop := Lib.IsBuilder 225 5 B b bs w

theorem sizeBuilder : (Tryz.prog.info? 225).map (·.size) = some 2 := by kernel_rfl
theorem liesBuilder : liesAt Tryz.prog Tryz.prog.depth 225 (2 / Tryz.prog.cellsOf 225) 0 225 1 = true := by kernel_rfl
theorem infoByte : (Tryz.prog.info? 5).map (fun i => (i.zero, i.size, i.bytes)) = some (some (.int .u8 0), 1, 1) := by kernel_rfl

theorem copyCheck_used (b : Nat) (w : World) (h0 : w.cell? ⟨b, 0, none⟩ = some (.pointer (some ⟨b, 0, none⟩))) :
    Calls Tryz.prog 172 #[.pointer (some ⟨b, 0, none⟩)] w fun e w' => e = .returned (.tuple #[]) ∧ w' = w := by
  obtain ⟨j, hj, _⟩ := Option.map_eq_some_iff.1 sizeBuilder
  go_enter Tryz.func172, Tryz.ntmps172
  go_wp2
  rw [Lib.run_neq_ptr_same w _ Tryz.underlying222 hj]
  go_wp2
  go_end0
  exact ⟨rfl, rfl⟩

theorem copyCheck_fresh (b : Nat) (w : World) (h0 : w.cell? ⟨b, 0, none⟩ = some (.pointer none)) (hsh : w.shape? b = some (225, 2)) (hfz : w.frozen? ⟨b, 0, none⟩ = false) :
    Calls Tryz.prog 172 #[.pointer (some ⟨b, 0, none⟩)] w fun e w' => e = .returned (.tuple #[]) ∧ w' = w.setCell ⟨b, 0, none⟩ (.pointer (some ⟨b, 0, none⟩)) := by
  obtain ⟨j, hj, hjs⟩ := Option.map_eq_some_iff.1 sizeBuilder
  go_enter Tryz.func172, Tryz.ntmps172
  go_wp2
  rw [Lib.run_to_unsafe w ⟨b, 0, none⟩ Tryz.underlying222 Tryz.underlying258 hj (by rw [hjs]; decide) hsh (Nat.zero_lt_succ 1)]
  simp only [Result.andThen]
  rw [Oper.upon_value]
  go_wp2
  rw [run_callFunc_extern Tryz.func196 (by kernel_rfl) (by kernel_rfl) (by kernel_rfl) (e := Extern.AbiNoEscape.same) (by kernel_rfl)]
  rw [Lib.run_noEscape]
  simp only [Result.andThen]
  rw [Oper.upon_value]
  go_wp2
  rw [Lib.run_from_unsafe w ⟨b, 0, none⟩ Tryz.underlying258 Tryz.underlying222 hj hsh liesBuilder]
  simp only [Result.andThen]
  rw [Oper.upon_value]
  go_wp2
  go_end0
  exact ⟨rfl, rfl⟩

end Bld
end Go.Proofs.YtklhlkhlndhepaaGreatDoor
namespace Go.Proofs.YtklhlkhlndhepaaGreatDoor
open Go.RowKit
namespace Ab

/-- A builder (whether it has been written to) that holds these bytes. -/
abbrev bldO (u : Bool) (xs : List Int) : Obs := [(0, .box 225 [.nself u 0, .vec 1]), (1, .vec 5 (.int .u8) xs)]

theorem setCell_grew {w : World} {b i : Nat} {v : Value} : Grew w (w.setCell ⟨b, i, none⟩ v) (some b) :=
  ⟨rfl, rfl, rfl, by simp [World.setCell], fun k _ hk => by
    simp only [World.setCell, Array.getElem?_modify]
    rw [if_neg (fun e => hk (by rw [e]))]⟩
theorem setCell_heap {w : World} {b i : Nat} {v : Value} {cs : Array Value} {T : TypeId} {fr : Nat × Nat} (h : w.heap[b]? = some (.cells cs T fr)) : (w.setCell ⟨b, i, none⟩ v).heap[b]? = some (.cells (cs.setIfInBounds i v) T fr) := by
  simp [World.setCell, Array.getElem?_modify, h]

theorem copyCheck_o (u : Bool) (xs : List Int) : ACallO Tryz.prog 172 [.one (.own 0 0)] (bldO u xs) 2 (.tup []) (bldO true xs) 2 := by
  refine ⟨⟨_, Tryz.func172, rfl, rfl⟩, fun cx ρ w vs hN hnx hw hs hvs => ?_⟩
  obtain ⟨b, cs, hρ, hh, hcs⟩ := hs.obs (0, .box 225 [.nself u 0, .vec 1]) (by simp)
  obtain ⟨p, r, rfl, hp, v, r2, rfl, hv, hr⟩ := hcs
  rw [show r2 = [] from hr] at hh
  obtain ⟨q, r3, rfl, ⟨b', hb1, hb2⟩, hr3⟩ := hvs
  rw [hρ] at hb1
  simp only [Option.some.injEq, Value.pointer.injEq, Addr.mk.injEq, and_true] at hb1
  subst hb1
  rw [show r3 = [] from hr3, hb2]
  have hh : w.heap[b]? = some (.cells #[p, v] 225 (0, 0)) := hh
  cases u with
  | true =>
    obtain ⟨b2, hb3, hb4⟩ := hp.1 rfl
    rw [hρ] at hb3
    simp only [Option.some.injEq, Value.pointer.injEq, Addr.mk.injEq, and_true] at hb3
    subst hb3
    refine (Bld.copyCheck_used b w (by simp [World.cell?, hh, hb4])).mono ?_
    rintro e w' ⟨rfl, rfl⟩
    exact ⟨_, ρ, rfl, hs, [], rfl, rfl⟩
  | false =>
    have hp : p = .pointer none := hp.2 rfl
    refine (Bld.copyCheck_fresh b w (by simp [World.cell?, hh, hp]) (by simp [World.shape?, hh]) (Lib.frozen_of_heap hh 0)).mono ?_
    rintro e w' ⟨rfl, rfl⟩
    refine ⟨_, ρ, rfl, ?_, [], rfl, rfl⟩
    have hg : getO (bldO false xs) 0 = some (.box 225 [.nself false 0, .vec 1]) := rfl
    have hk : Keeps (okOf cx ρ (bldO false xs)) (okOf cx ρ (bldO false xs)) w (w.setCell ⟨b, 0, none⟩ (.pointer (some ⟨b, 0, none⟩))) :=
      fun _ k hk hlt => ⟨hk, setCell_grew.block k hlt (fun e => hk.2 _ (mem_getO hg) (by rw [hρ]; exact e.symm))⟩
    have := hs.write (o' := .box 225 [.nself true 0, .vec 1]) hg (w' := w.setCell ⟨b, 0, none⟩ (.pointer (some ⟨b, 0, none⟩))) (by rw [hρ]; exact setCell_grew) (by simp [World.setCell]) ⟨b, [.pointer (some ⟨b, 0, none⟩), v], hρ, setCell_heap hh, _, _, rfl, ⟨fun _ => ⟨b, hρ, rfl⟩, fun e => by (cases e)⟩, _, _, rfl, C.kept (c := .vec 1) hk hv, rfl⟩
    exact this
set_option maxRecDepth 10000
theorem writeByte_o (u : Bool) (xs : List Int) (c : Int) (hl : xs.length + 1 ≤ 140737488355328) : ACallO Tryz.prog 192 [.one (.own 0 0), ii .u8 c] (bldO u xs) 2 (.one (.lit .nilIface)) (bldO true (xs ++ [c])) 2 := by
  refine acallo_of (rs := [4]) Tryz.func192 rfl rfl rfl teOk (by decide) rfl ?_
  refine acode_seq (acode_region ?_)
  refine acode_seq (acode_region ?_)
  refine Or.inr (Or.inl (Exists.intro [] (Exists.intro [0, 1] (Exists.intro _ (Exists.intro _ (Exists.intro _ (Exists.intro _ (Exists.intro _ (And.intro (copyCheck_o u xs) (And.intro rfl (And.intro (And.intro (And.intro rfl rfl) (And.intro (And.intro rfl rfl) True.intro)) (And.intro rfl ?_))))))))))))
  refine acode_seq (acode_region ?_)
  refine And.intro (by show (xs.length + 1) * 1 ≤ 140737488355328; omega) ?_
  refine acode_seq (acode_region ?_)
  refine acode_ret ?_
  exact ⟨rfl, ⟨rfl, rfl⟩, rfl⟩
theorem writeString_o (u : Bool) (xs : List Int) (t : ByteArray) (hl : xs.length + t.size ≤ 140737488355328) : ACallO Tryz.prog 143 [.one (.own 0 0), is t] (bldO u xs) 2
    (.tup [(false, [.lit (.int .i64 t.size)]), (false, [.lit .nilIface])]) (bldO true (xs ++ intsOf t)) 2 := by
  refine acallo_of (rs := [4, 5]) Tryz.func143 rfl rfl rfl teOk (by decide) rfl ?_
  refine acode_seq (acode_region ?_)
  refine acode_seq (acode_region ?_)
  refine Or.inr (Or.inl (Exists.intro [] (Exists.intro [0, 1] (Exists.intro _ (Exists.intro _ (Exists.intro _ (Exists.intro _ (Exists.intro _ (And.intro (copyCheck_o u xs) (And.intro rfl (And.intro (And.intro (And.intro rfl rfl) (And.intro (And.intro rfl rfl) True.intro)) (And.intro rfl ?_))))))))))))
  refine acode_seq (acode_region ?_)
  refine And.intro hl ?_
  refine acode_seq (acode_region ?_)
  refine acode_ret ?_
  exact ⟨rfl, ⟨rfl, rfl⟩, rfl⟩
end Ab
end Go.Proofs.YtklhlkhlndhepaaGreatDoor
namespace Go.Proofs.YtklhlkhlndhepaaGreatDoor
open Go.RowKit
namespace Ab
theorem grew_freeze {w w' : World} {g n : Nat} (h : Grew w w' (some g)) : Grew w (w'.freeze ⟨g, 0, none⟩ n) (some g) := by
  unfold World.freeze
  split
  · exact h
  · exact ⟨h.os, h.tape, h.output, by simpa using h.size, fun k hk hg => by
      simp only [Array.getElem?_modify]
      rw [if_neg (fun e => hg (by rw [e]))]
      exact h.block k hk hg⟩
theorem grew_drew {w : World} {r : Option Nat} : Grew w w.drew r := ⟨rfl, rfl, rfl, Nat.le_refl _, fun _ _ _ => rfl⟩
theorem grew_alloc {w : World} {o : Obj} {r : Option Nat} : Grew w (w.drew.alloc o) r := ⟨rfl, rfl, rfl, by simp, fun k hk _ => Lib.alloc_old w.drew _ k hk⟩

set_option maxRecDepth 100000
set_option maxHeartbeats 2000000
theorem string_some (b g cap : Nat) (cur : Array Value) (p : Value) (l : List UInt8) (w : World) (h0 : l ≠ []) (hbk : w.heap[b]? = some (.cells #[p, .slice (some ⟨g, 0, none⟩) l.length cap] 225 (0, 0)))
    (hg : w.heap[g]? = some (.cells cur 5 (0, 0))) (hnc : l.length ≤ cap) (hcm : cap ≤ maxLen) (hcs : cur.size = cap * 1) (hown : w.ownsRow 0 5 1 (.slice (some ⟨g, 0, none⟩) l.length cap) l.length (Lib.byteCells l)) :
    Calls Tryz.prog 144 #[.pointer (some ⟨b, 0, none⟩)] w fun e w' => e = .returned (.string ⟨l.toArray⟩) ∧ Grew w w' (some g) := by
  have hl0 : l.length ≠ 0 := by simpa using h0
  have c1 : w.drew.cell? ⟨b, 1, none⟩ = some (.slice (some ⟨g, 0, none⟩) l.length cap) := by
    have : w.drew.heap[b]? = some (.cells #[p, .slice (some ⟨g, 0, none⟩) l.length cap] 225 (0, 0)) := hbk
    rw [Lib.cell_of_heap this]; rfl
  have hSD : (Builtin.unsafeSliceData_ #[223] 242 #[.slice (some ⟨g, 0, none⟩) l.length cap]).run Tryz.prog w.drew = .ok (.pointer (some ⟨g, 0, none⟩)) w.drew :=
    Lib.run_unsafeSliceData_row _ _ _ _ _ _ (by omega)
  have hUS : (Builtin.unsafeString_ #[242, 3] 9 #[.pointer (some ⟨g, 0, none⟩), .int .i64 l.length]).run Tryz.prog w.drew = .ok (.string ⟨l.toArray⟩) (w.drew.freeze ⟨g, 0, none⟩ l.length) := by
    refine Lib.run_unsafeString_row w.drew 242 3 9 5 Tryz.underlying242 (by kernel_rfl) g cur.size (by have hg' : w.drew.heap[g]? = some (.cells cur 5 (0, 0)) := hg; simp [World.shape?, hg']) l h0 (by omega) (by unfold maxLen at hcm; omega) ?_
    intro j x hx
    have := hown.cells (g := g) rfl j (.int .u8 x.toNat) (by simp [Lib.byteCells, hx])
    exact this
  have mixed : Tryz.prog.follows .mixedOrders = true := by kernel_rfl
  go_enter Tryz.func144, Tryz.ntmps144
  go_wp2
  go_region_o
  all_goals (go_wp2; go_ret; exact ⟨rfl, grew_freeze grew_drew⟩)
theorem string_nil (b : Nat) (p : Value) (w : World) (hbk : w.heap[b]? = some (.cells #[p, .slice none 0 0] 225 (0, 0))) :
    Calls Tryz.prog 144 #[.pointer (some ⟨b, 0, none⟩)] w fun e w' => e = .returned (.string ⟨#[]⟩) ∧ Grew w w' none := by
  have hUS : ∀ (W : World) (q : Option Addr), (Builtin.unsafeString_ #[242, 3] 9 #[.pointer q, .int .i64 0]).run Tryz.prog W = .ok (.string .empty) W := fun W q => Lib.run_unsafeString_none W _ _ _ q
  have c1 : w.drew.cell? ⟨b, 1, none⟩ = some (.slice none 0 0) := by
    have : w.drew.heap[b]? = some (.cells #[p, .slice none 0 0] 225 (0, 0)) := hbk
    rw [Lib.cell_of_heap this]; rfl
  have hSD : (Builtin.unsafeSliceData_ #[223] 242 #[.slice none 0 0]).run Tryz.prog w.drew = .ok (.pointer none) w.drew := rfl
  have mixed : Tryz.prog.follows .mixedOrders = true := by kernel_rfl
  go_enter Tryz.func144, Tryz.ntmps144
  go_wp2
  go_region_o
  all_goals (go_wp2; go_ret; exact ⟨rfl, grew_drew⟩)
theorem string_noroom (b g : Nat) (p : Value) (cur : Array Value) (w : World) (hbk : w.heap[b]? = some (.cells #[p, .slice (some ⟨g, 0, none⟩) 0 0] 225 (0, 0))) (hg : w.heap[g]? = some (.cells cur 5 (0, 0))) :
    Calls Tryz.prog 144 #[.pointer (some ⟨b, 0, none⟩)] w fun e w' => e = .returned (.string ⟨#[]⟩) ∧ Grew w w' (some g) := by
  have hUS : ∀ (W : World) (q : Option Addr), (Builtin.unsafeString_ #[242, 3] 9 #[.pointer q, .int .i64 0]).run Tryz.prog W = .ok (.string .empty) W := fun W q => Lib.run_unsafeString_none W _ _ _ q
  have hlt : b < w.heap.size := (Array.getElem?_eq_some_iff.1 hbk).1
  have c1 : w.drew.cell? ⟨b, 1, none⟩ = some (.slice (some ⟨g, 0, none⟩) 0 0) := by
    have : w.drew.heap[b]? = some (.cells #[p, .slice (some ⟨g, 0, none⟩) 0 0] 225 (0, 0)) := hbk
    rw [Lib.cell_of_heap this]; rfl
  have hSD : (Builtin.unsafeSliceData_ #[223] 242 #[.slice (some ⟨g, 0, none⟩) 0 0]).run Tryz.prog w.drew = .ok (.pointer (some ⟨w.drew.heap.size, 0, none⟩)) (w.drew.alloc (.view ⟨g, 0, none⟩ 5)) :=
    Lib.run_unsafeSliceData_zero w.drew _ _ 5 Tryz.underlying242 ⟨g, 0, none⟩ 0 (5, cur.size) (by have hg' : w.drew.heap[g]? = some (.cells cur 5 (0, 0)) := hg; simp [World.shape?, hg'])
  have c2 : (w.drew.alloc (.view ⟨g, 0, none⟩ 5)).cell? ⟨b, 1, none⟩ = some (.slice (some ⟨g, 0, none⟩) 0 0) := by
    have : (w.drew.alloc (.view ⟨g, 0, none⟩ 5)).heap[b]? = _ := (Lib.alloc_old w.drew _ b hlt).trans hbk
    rw [Lib.cell_of_heap this]; rfl
  have c3 : (w.alloc (.view ⟨g, 0, none⟩ 5)).drew.cell? ⟨b, 1, none⟩ = some (.slice (some ⟨g, 0, none⟩) 0 0) := c2
  have c0 : w.cell? ⟨b, 1, none⟩ = some (.slice (some ⟨g, 0, none⟩) 0 0) := c1
  have mixed : Tryz.prog.follows .mixedOrders = true := by kernel_rfl
  go_enter Tryz.func144, Tryz.ntmps144
  go_wp2
  go_region_o
  all_goals (go_wp2; go_ret; exact ⟨rfl, grew_alloc⟩)
theorem string_room (b g cap : Nat) (p : Value) (w : World) (hc0 : cap ≠ 0) (hbk : w.heap[b]? = some (.cells #[p, .slice (some ⟨g, 0, none⟩) 0 cap] 225 (0, 0))) :
    Calls Tryz.prog 144 #[.pointer (some ⟨b, 0, none⟩)] w fun e w' => e = .returned (.string ⟨#[]⟩) ∧ Grew w w' (some g) := by
  have hUS : ∀ (W : World) (q : Option Addr), (Builtin.unsafeString_ #[242, 3] 9 #[.pointer q, .int .i64 0]).run Tryz.prog W = .ok (.string .empty) W := fun W q => Lib.run_unsafeString_none W _ _ _ q
  have c1 : w.drew.cell? ⟨b, 1, none⟩ = some (.slice (some ⟨g, 0, none⟩) 0 cap) := by
    have : w.drew.heap[b]? = some (.cells #[p, .slice (some ⟨g, 0, none⟩) 0 cap] 225 (0, 0)) := hbk
    rw [Lib.cell_of_heap this]; rfl
  have hSD : (Builtin.unsafeSliceData_ #[223] 242 #[.slice (some ⟨g, 0, none⟩) 0 cap]).run Tryz.prog w.drew = .ok (.pointer (some ⟨g, 0, none⟩)) w.drew :=
    Lib.run_unsafeSliceData_row _ _ _ _ _ _ hc0
  clear hc0
  have mixed : Tryz.prog.follows .mixedOrders = true := by kernel_rfl
  go_enter Tryz.func144, Tryz.ntmps144
  go_wp2
  go_region_o
  all_goals (go_wp2; go_ret; exact ⟨rfl, grew_drew⟩)
end Ab
end Go.Proofs.YtklhlkhlndhepaaGreatDoor
namespace Go.Proofs.YtklhlkhlndhepaaGreatDoor
open Go.RowKit
namespace Ab

theorem string_calls (b : Nat) (p v : Value) (s : ByteArray) (w : World) (hbk : w.heap[b]? = some (.cells #[p, v] 225 (0, 0))) (hown : w.ownsRow 0 5 1 v s.size (Lib.strCells s)) :
    Calls Tryz.prog 144 #[.pointer (some ⟨b, 0, none⟩)] w fun e w' => e = .returned (.string s) ∧ Grew w w' (blk (some v)) := by
  have hs : s = ⟨s.data.toList.toArray⟩ := by cases s; simp
  have hsz : s.size = s.data.toList.length := by cases s; rfl
  rcases hown.2 with ⟨rfl, hz⟩ | ⟨g, cap, cur, rfl, _, hg, hnc, hcm, hcs, htake⟩
  · have hl : s.data.toList = [] := List.eq_nil_of_length_eq_zero (by rw [← hsz]; exact hz)
    rw [hl] at hs
    refine (string_nil b p w hbk).mono ?_
    rintro e w' ⟨rfl, h⟩
    exact ⟨by rw [hs], h⟩
  · by_cases h0 : s.size = 0
    · have hl : s.data.toList = [] := List.eq_nil_of_length_eq_zero (by rw [← hsz]; exact h0)
      rw [hl] at hs
      rw [h0] at hbk
      by_cases hc : cap = 0
      · subst hc
        refine (string_noroom b g p cur w hbk hg).mono ?_
        rintro e w' ⟨rfl, h⟩
        exact ⟨by rw [hs], h⟩
      · refine (string_room b g cap p w hc hbk).mono ?_
        rintro e w' ⟨rfl, h⟩
        exact ⟨by rw [hs], h⟩
    · rw [hsz] at hbk hnc hown
      refine (string_some b g cap cur p s.data.toList w (fun e => h0 (by rw [hsz, e]; rfl)) hbk hg hnc hcm hcs hown).mono ?_
      rintro e w' ⟨rfl, h⟩
      exact ⟨by rw [← hs], h⟩

/-- The builder is used up: its bytes are frozen. -/
theorem string_o (u : Bool) (s : ByteArray) : ACallO Tryz.prog 144 [.one (.own 0 0)] (bldO u (intsOf s)) 2 (is s) [] 2 := by
  refine ⟨⟨_, Tryz.func144, rfl, rfl⟩, fun cx ρ w vs hN hnx hw hs hvs => ?_⟩
  obtain ⟨b, cs, hρ, hh, hcs⟩ := hs.obs (0, .box 225 [.nself u 0, .vec 1]) (by simp)
  obtain ⟨p, r, rfl, hp, v, r2, rfl, hv, hr⟩ := hcs
  rw [show r2 = [] from hr] at hh
  obtain ⟨q, r3, rfl, ⟨b', hb1, hb2⟩, hr3⟩ := hvs
  rw [hρ] at hb1
  simp only [Option.some.injEq, Value.pointer.injEq, Addr.mk.injEq, and_true] at hb1
  subst hb1
  rw [show r3 = [] from hr3, hb2]
  have hh : w.heap[b]? = some (.cells #[p, v] 225 (0, 0)) := hh
  obtain ⟨v', hv', css, h1, h2, h3⟩ := hs.obs (1, .vec 5 (.int .u8) (intsOf s)) (by simp)
  have hv1 : ρ 1 = some v := hv.1
  rw [show ρ 1 = some v' from hv'] at hv1
  obtain rfl := Option.some.inj hv1
  have hc : css = (intsOf s).map fun n => [Value.int .u8 n] := by
    apply List.ext_getElem
    · simp [h1]
    · intro i hi hi'
      have hlt : i < (intsOf s).length := by rw [← h1]; exact hi
      have h4 : css.getD i [] = [.int .u8 (intsOf s)[i]] := h2 i hlt
      simp only [List.getD, List.getElem?_eq_getElem hi, Option.getD_some] at h4
      rw [h4, List.getElem_map]
  have hown : w.ownsRow 0 5 1 v' s.size (Lib.strCells s) := by
    rw [← flat_ints, ← hc, ← intsOf_length]
    exact h3
  refine (string_calls b p v' s w hh hown).mono ?_
  rintro e w' ⟨rfl, hg⟩
  refine ⟨_, ρ, rfl, ⟨hs.size, DefOk.none hN.2.2, fun _ => trivial, fun p hp => by (cases hp), List.nodup_nil, fun p hp => by (cases hp), hs.names, hs.nx0, fun p hp => by (cases hp), fun p hp => by (cases hp), ?_, hs.disj, hs.pin, hs.glob⟩, rfl⟩
  refine ⟨by rw [hw]; exact hg.os, by rw [hw]; exact hg.tape, by rw [hw]; exact hg.output, by rw [hw]; exact hg.size, fun k hk hno => ?_⟩
  rw [hw] at hk ⊢
  refine hg.block k hk fun e => ?_
  rcases (hs.low (1, .vec 5 (.int .u8) (intsOf s)) (by simp) k (by rw [show ρ 1 = some v' from hv']; exact e.symm)).2 with h4 | h4
  · rw [hw] at h4; omega
  · exact hno h4
end Ab
end Go.Proofs.YtklhlkhlndhepaaGreatDoor
namespace Go.Proofs
open Go.Shelf
def Tryz.lays169_ren : Go.Shelf.Ren := ⟨fun | 169 => 144 | n => n, fun | 70 => 222 | 9 => 9 | 0 => 0 | 72 => 225 | 37 => 223 | 127 => 242 | 3 => 3 | 5 => 5 | n => n, fun | n => n⟩
theorem Tryz.lays169 : Go.Proofs.Lays.n169 Tryz.prog Tryz.lays169_ren := {
  mixed := by kernel_rfl
  f169 := Tryz.func144.trans (congrArg some (by kernel_rfl))
  t0 := Tryz.underlying0
  a0 := Tryz.isAgg0
  z0 := Tryz.sizeOf0
  v0 := Tryz.zeroValue0
  t3 := Tryz.underlying3
  a3 := Tryz.isAgg3
  z3 := Tryz.sizeOf3
  v3 := Tryz.zeroValue3
  t9 := Tryz.underlying9
  a9 := Tryz.isAgg9
  z9 := Tryz.sizeOf9
  v9 := Tryz.zeroValue9
  t37 := Tryz.underlying223
  a37 := Tryz.isAgg223
  z37 := Tryz.sizeOf223
  v37 := Tryz.zeroValue223
  t70 := Tryz.underlying222
  a70 := Tryz.isAgg222
  z70 := Tryz.sizeOf222
  v70 := Tryz.zeroValue222
  t72 := Tryz.underlying225
  a72 := Tryz.isAgg225
  z72 := Tryz.sizeOf225
  v72 := Tryz.zeroValue225
  t127 := Tryz.underlying242
  a127 := Tryz.isAgg242
  z127 := Tryz.sizeOf242
  v127 := Tryz.zeroValue242 }
theorem Tryz.Builder_Extra_169 : Builder.Extra Tryz.prog Tryz.lays169_ren := {
  sizeBuilder := by kernel_rfl
  liesBuilder := by kernel_rfl
  t5 := Tryz.underlying5
  a5 := Tryz.isAgg5
  z5 := Tryz.sizeOf5
  v5 := Tryz.zeroValue5
  infoByte := by kernel_rfl
  cellsByte := by kernel_rfl
  sizeByte := by kernel_rfl
  neB5 := by decide }
open Go.RowKit in
/-- (*strings.Builder).String: "String returns the accumulated string.": OF A BUILDER THAT HOLDS AT LEAST ONE BYTE. ✋ THE MODEL FREEZES THOSE BYTES IN THE BUFFER (unsafe.String): a later write INTO them ends the model's run without an answer; a later append BEHIND them goes on. The statement's order of evaluation is drawn: one draw. (LAID: no walk: one application.) -/
theorem Tryz.Builder_String (B b : Nat) (l : List UInt8) (w : World) (h : Lib.IsBuilder 225 5 B b (Lib.byteCells l) w) (h0 : l ≠ []) :
    Calls Tryz.prog 144 #[.pointer (some ⟨b, 0, none⟩)] w fun e w' => e = .returned (.string ⟨l.toArray⟩) ∧ Below B w w' := Any.Builder_String Tryz.lays169 Tryz.Builder_Extra_169 B b l w h h0
open Go.RowKit in
/-- (*strings.Builder).String OF A BUILDER THAT HOLDS NO BYTE: the empty string. (Its buffer is nil, or a row of which it has taken nothing yet; where that row has NO capacity the model lays one new block for unsafe.SliceData's 'some address'.) One draw. (LAID: no walk: one application.) -/
theorem Tryz.Builder_String_empty (B b : Nat) (w : World) (h : Lib.IsBuilder 225 5 B b [] w) (hBw : B ≤ w.heap.size) :
    Calls Tryz.prog 144 #[.pointer (some ⟨b, 0, none⟩)] w fun e w' => e = .returned (.string ⟨#[]⟩) ∧ Below B w w' := Any.Builder_String_empty Tryz.lays169 Tryz.Builder_Extra_169 B b w h hBw
open Go.RowKit in
/-- (*strings.Builder).String: "String returns the accumulated string.": WHATEVER THE BUILDER HOLDS. (LAID: no walk: one application.) -/
theorem Tryz.Builder_String_any (B b : Nat) (l : List UInt8) (w : World) (h : Lib.IsBuilder 225 5 B b (Lib.byteCells l) w) (hBw : B ≤ w.heap.size) :
    Calls Tryz.prog 144 #[.pointer (some ⟨b, 0, none⟩)] w fun e w' => e = .returned (.string ⟨l.toArray⟩) ∧ Below B w w' := Any.Builder_String_any Tryz.lays169 Tryz.Builder_Extra_169 B b l w h hBw
def Tryz.lays241_ren : Go.Shelf.Ren := ⟨fun | 241 => 185 | 277 => 204 | n => n, fun | 70 => 222 | 3 => 3 | 0 => 0 | 72 => 225 | 37 => 223 | 5 => 5 | n => n, fun | n => n⟩
theorem Tryz.lays241 : Go.Proofs.Lays.n241 Tryz.prog Tryz.lays241_ren := {
  mixed := by kernel_rfl
  f241 := Tryz.func185.trans (congrArg some (by kernel_rfl))
  f277 := Tryz.func204.trans (congrArg some (by kernel_rfl))
  t0 := Tryz.underlying0
  a0 := Tryz.isAgg0
  z0 := Tryz.sizeOf0
  v0 := Tryz.zeroValue0
  t3 := Tryz.underlying3
  a3 := Tryz.isAgg3
  z3 := Tryz.sizeOf3
  v3 := Tryz.zeroValue3
  t37 := Tryz.underlying223
  a37 := Tryz.isAgg223
  z37 := Tryz.sizeOf223
  v37 := Tryz.zeroValue223
  t70 := Tryz.underlying222
  a70 := Tryz.isAgg222
  z70 := Tryz.sizeOf222
  v70 := Tryz.zeroValue222
  t72 := Tryz.underlying225
  a72 := Tryz.isAgg225
  z72 := Tryz.sizeOf225
  v72 := Tryz.zeroValue225 }
theorem Tryz.Builder_Extra_241 : Builder.Extra Tryz.prog Tryz.lays241_ren := {
  sizeBuilder := by kernel_rfl
  liesBuilder := by kernel_rfl
  t5 := Tryz.underlying5
  a5 := Tryz.isAgg5
  z5 := Tryz.sizeOf5
  v5 := Tryz.zeroValue5
  infoByte := by kernel_rfl
  cellsByte := by kernel_rfl
  sizeByte := by kernel_rfl
  neB5 := by decide }
open Go.RowKit in
/-- (*strings.Builder).grow (no doc but "grow copies the buffer to a new, larger buffer so that there are at least n bytes of capacity beyond len(b.buf)."): AT A BUILDER WITHOUT A BUFFER: a new row of whatever bytes for its buffer, none of them its own yet. Three draws. (LAID: no walk: one application.) -/
theorem Tryz.Builder_grow_fresh (B b n : Nat) (w : World) (hB : B ≤ b) (hbk : w.heap[b]? = some (.cells #[.pointer (some ⟨b, 0, none⟩), .slice none 0 0] 225 (0, 0))) (hBw : B ≤ w.heap.size) (hn : n ≤ 281474976710656) :
    Calls Tryz.prog 185 #[.pointer (some ⟨b, 0, none⟩), .int .i64 n] w fun e w' => e = .returned (.tuple #[]) ∧ (Lib.BuilderAt 225 5 B b (.pointer (some ⟨b, 0, none⟩)) [] w' ∧ Below B w w') := Any.Builder_grow_fresh Tryz.lays241 Tryz.Builder_Extra_241 B b n w hB hbk hBw hn
def Tryz.lays165_ren : Go.Shelf.Ren := ⟨fun | 165 => 153 | 240 => 172 | 241 => 185 | 276 => 196 | 277 => 204 | n => n, fun | 70 => 222 | 3 => 3 | 0 => 0 | 4 => 4 | 9 => 9 | 20 => 20 | 72 => 225 | 37 => 223 | 164 => 258 | 5 => 5 | n => n, fun | n => n⟩
theorem Tryz.lays165 : Go.Proofs.Lays.n165 Tryz.prog Tryz.lays165_ren := {
  mixed := by kernel_rfl
  f165 := Tryz.func153.trans (congrArg some (by kernel_rfl))
  f240 := Tryz.func172.trans (congrArg some (by kernel_rfl))
  f241 := Tryz.func185.trans (congrArg some (by kernel_rfl))
  f276 := Tryz.func196.trans (congrArg some (by kernel_rfl))
  f277 := Tryz.func204.trans (congrArg some (by kernel_rfl))
  t0 := Tryz.underlying0
  a0 := Tryz.isAgg0
  z0 := Tryz.sizeOf0
  v0 := Tryz.zeroValue0
  t3 := Tryz.underlying3
  a3 := Tryz.isAgg3
  z3 := Tryz.sizeOf3
  v3 := Tryz.zeroValue3
  t4 := Tryz.underlying4
  a4 := Tryz.isAgg4
  z4 := Tryz.sizeOf4
  v4 := Tryz.zeroValue4
  t9 := Tryz.underlying9
  a9 := Tryz.isAgg9
  z9 := Tryz.sizeOf9
  v9 := Tryz.zeroValue9
  t20 := Tryz.underlying20
  a20 := Tryz.isAgg20
  z20 := Tryz.sizeOf20
  v20 := Tryz.zeroValue20
  t37 := Tryz.underlying223
  a37 := Tryz.isAgg223
  z37 := Tryz.sizeOf223
  v37 := Tryz.zeroValue223
  t70 := Tryz.underlying222
  a70 := Tryz.isAgg222
  z70 := Tryz.sizeOf222
  v70 := Tryz.zeroValue222
  t72 := Tryz.underlying225
  a72 := Tryz.isAgg225
  z72 := Tryz.sizeOf225
  v72 := Tryz.zeroValue225
  t164 := Tryz.underlying258
  a164 := Tryz.isAgg258
  z164 := Tryz.sizeOf258
  v164 := Tryz.zeroValue258 }
theorem Tryz.Builder_Extra_165 : Builder.Extra Tryz.prog Tryz.lays165_ren := {
  sizeBuilder := by kernel_rfl
  liesBuilder := by kernel_rfl
  t5 := Tryz.underlying5
  a5 := Tryz.isAgg5
  z5 := Tryz.sizeOf5
  v5 := Tryz.zeroValue5
  infoByte := by kernel_rfl
  cellsByte := by kernel_rfl
  sizeByte := by kernel_rfl
  neB5 := by decide }
open Go.RowKit in
/-- (*strings.Builder).Grow AT A BUILDER THAT HAS NOT BEEN WRITTEN ('var b strings.Builder; b.Grow(n)'): "Grow grows b's capacity, if necessary, to guarantee space for another n bytes.": it holds no byte behind it as before it. (LAID: no walk: one application.) -/
theorem Tryz.Builder_Grow_fresh (B b n : Nat) (w : World) (hB : B ≤ b) (hbk : w.heap[b]? = some (.cells #[.pointer none, .slice none 0 0] 225 (0, 0))) (hBw : B ≤ w.heap.size) (hn : n ≤ 281474976710656) :
    Calls Tryz.prog 153 #[.pointer (some ⟨b, 0, none⟩), .int .i64 n] w fun e w' => e = .returned (.tuple #[]) ∧ (Lib.BuilderAt 225 5 B b (.pointer (some ⟨b, 0, none⟩)) [] w' ∧ Below B w w') := Any.Builder_Grow_fresh Tryz.lays165 Tryz.Builder_Extra_165 B b n w hB hbk hBw hn
def Tryz.lays156_ren : Go.Shelf.Ren := ⟨fun | 156 => 122 | 165 => 153 | 166 => 143 | 169 => 144 | 240 => 172 | 241 => 185 | 276 => 196 | 277 => 204 | n => n, fun | 31 => 71 | 9 => 9 | 3 => 3 | 4 => 4 | 0 => 0 | 20 => 20 | 72 => 225 | 76 => 82 | 70 => 222 | 37 => 223 | 75 => 42 | 127 => 242 | 164 => 258 | 5 => 5 | 80 => 68 | n => n, fun | n => n⟩
theorem Tryz.lays156 : Go.Proofs.Lays.n156 Tryz.prog Tryz.lays156_ren := {
  mixed := by kernel_rfl
  f156 := Tryz.func122.trans (congrArg some (by kernel_rfl))
  f165 := Tryz.func153.trans (congrArg some (by kernel_rfl))
  f166 := Tryz.func143.trans (congrArg some (by kernel_rfl))
  f169 := Tryz.func144.trans (congrArg some (by kernel_rfl))
  f240 := Tryz.func172.trans (congrArg some (by kernel_rfl))
  f241 := Tryz.func185.trans (congrArg some (by kernel_rfl))
  f276 := Tryz.func196.trans (congrArg some (by kernel_rfl))
  f277 := Tryz.func204.trans (congrArg some (by kernel_rfl))
  t0 := Tryz.underlying0
  a0 := Tryz.isAgg0
  z0 := Tryz.sizeOf0
  v0 := Tryz.zeroValue0
  t3 := Tryz.underlying3
  a3 := Tryz.isAgg3
  z3 := Tryz.sizeOf3
  v3 := Tryz.zeroValue3
  t4 := Tryz.underlying4
  a4 := Tryz.isAgg4
  z4 := Tryz.sizeOf4
  v4 := Tryz.zeroValue4
  t9 := Tryz.underlying9
  a9 := Tryz.isAgg9
  z9 := Tryz.sizeOf9
  v9 := Tryz.zeroValue9
  t20 := Tryz.underlying20
  a20 := Tryz.isAgg20
  z20 := Tryz.sizeOf20
  v20 := Tryz.zeroValue20
  t31 := Tryz.underlying71
  a31 := Tryz.isAgg71
  z31 := Tryz.sizeOf71
  v31 := Tryz.zeroValue71
  t37 := Tryz.underlying223
  a37 := Tryz.isAgg223
  z37 := Tryz.sizeOf223
  v37 := Tryz.zeroValue223
  t70 := Tryz.underlying222
  a70 := Tryz.isAgg222
  z70 := Tryz.sizeOf222
  v70 := Tryz.zeroValue222
  t72 := Tryz.underlying225
  a72 := Tryz.isAgg225
  z72 := Tryz.sizeOf225
  v72 := Tryz.zeroValue225
  t75 := Tryz.underlying42
  a75 := Tryz.isAgg42
  z75 := Tryz.sizeOf42
  v75 := Tryz.zeroValue42
  t76 := Tryz.underlying82
  a76 := Tryz.isAgg82
  z76 := Tryz.sizeOf82
  v76 := Tryz.zeroValue82
  t127 := Tryz.underlying242
  a127 := Tryz.isAgg242
  z127 := Tryz.sizeOf242
  v127 := Tryz.zeroValue242
  t164 := Tryz.underlying258
  a164 := Tryz.isAgg258
  z164 := Tryz.sizeOf258
  v164 := Tryz.zeroValue258 }
theorem Tryz.Builder_Extra_156 : Builder.Extra Tryz.prog Tryz.lays156_ren := {
  sizeBuilder := by kernel_rfl
  liesBuilder := by kernel_rfl
  t5 := Tryz.underlying5
  a5 := Tryz.isAgg5
  z5 := Tryz.sizeOf5
  v5 := Tryz.zeroValue5
  infoByte := by kernel_rfl
  cellsByte := by kernel_rfl
  sizeByte := by kernel_rfl
  neB5 := by decide }
open Go.RowKit in
/-- No element: the empty string; the world is as it was. (Whatever the slice's address and capacity: a nil slice too.) (LAID: no walk: one application.) -/
theorem Tryz.strings_Join_none (a : Option Addr) (c : Nat) (sep : ByteArray) (w : World) :
    Calls Tryz.prog 122 #[.slice a 0 c, .string sep] w fun e w' => e = .returned (.string ⟨#[]⟩) ∧ w' = w := Any.strings_Join_none Tryz.lays156 Tryz.Builder_Extra_156 a c sep w
open Go.RowKit in
/-- strings.Join: "Join concatenates the elements of its first argument to create a single string. The separator string sep is placed between elements in the resulting string.": HOWEVER MANY ELEMENTS. Below the heap's end the world is as it was. (LAID: no walk: one application.) -/
theorem Tryz.strings_Join (bk o c : Nat) (xs : List ByteArray) (sep : ByteArray) (w : World) (hcells : ∀ (j : Nat) x, xs[j]? = some x → w.cell? ⟨bk, o + j, none⟩ = some (.string x)) (hbk : bk < w.heap.size) (hN : xs.length ≤ 140737488355328) (hcap : xs.length ≤ c) (hlen : (Lib.join (xs.map (·.data.toList)) sep.data.toList).length ≤ 140737488355328) :
    Calls Tryz.prog 122 #[.slice (some ⟨bk, o, none⟩) xs.length c, .string sep] w fun e w' => e = .returned (.string ⟨(Lib.join (xs.map (·.data.toList)) sep.data.toList).toArray⟩) ∧ Below w.heap.size w w' := Any.strings_Join Tryz.lays156 Tryz.Builder_Extra_156 bk o c xs sep w hcells hbk hN hcap hlen
def Tryz.lays231_ren : Go.Shelf.Ren := ⟨fun | 231 => 174 | n => n, fun | 9 => 9 | 5 => 5 | 3 => 3 | 4 => 4 | n => n, fun | n => n⟩
theorem Tryz.lays231 : Go.Proofs.Lays.n231 Tryz.prog Tryz.lays231_ren := {
  mixed := by kernel_rfl
  f231 := Tryz.func174.trans (congrArg some (by kernel_rfl))
  t3 := Tryz.underlying3
  a3 := Tryz.isAgg3
  z3 := Tryz.sizeOf3
  v3 := Tryz.zeroValue3
  t4 := Tryz.underlying4
  a4 := Tryz.isAgg4
  z4 := Tryz.sizeOf4
  v4 := Tryz.zeroValue4
  t5 := Tryz.underlying5
  a5 := Tryz.isAgg5
  z5 := Tryz.sizeOf5
  v5 := Tryz.zeroValue5
  t9 := Tryz.underlying9
  a9 := Tryz.isAgg9
  z9 := Tryz.sizeOf9
  v9 := Tryz.zeroValue9 }
open Go.RowKit in
/-- strings.trimLeftByte (no doc; what TrimLeft and Trim call at a cutset of one ASCII byte): the leading bytes that are c are cut off. The world is as it was. (LAID: no walk: one application.) -/
theorem Tryz.strings_trimLeftByte (s : ByteArray) (c : UInt8) (w : World) :
    Calls Tryz.prog 174 #[.string s, .int .u8 c.toNat] w fun e w' => e = .returned (.string ⟨(Lib.trimLeftB s.data.toList c).toArray⟩) ∧ w' = w := Any.strings_trimLeftByte Tryz.lays231 s c w
def Tryz.lays232_ren : Go.Shelf.Ren := ⟨fun | 232 => 175 | n => n, fun | 9 => 9 | 5 => 5 | 3 => 3 | 4 => 4 | n => n, fun | n => n⟩
theorem Tryz.lays232 : Go.Proofs.Lays.n232 Tryz.prog Tryz.lays232_ren := {
  mixed := by kernel_rfl
  f232 := Tryz.func175.trans (congrArg some (by kernel_rfl))
  t3 := Tryz.underlying3
  a3 := Tryz.isAgg3
  z3 := Tryz.sizeOf3
  v3 := Tryz.zeroValue3
  t4 := Tryz.underlying4
  a4 := Tryz.isAgg4
  z4 := Tryz.sizeOf4
  v4 := Tryz.zeroValue4
  t5 := Tryz.underlying5
  a5 := Tryz.isAgg5
  z5 := Tryz.sizeOf5
  v5 := Tryz.zeroValue5
  t9 := Tryz.underlying9
  a9 := Tryz.isAgg9
  z9 := Tryz.sizeOf9
  v9 := Tryz.zeroValue9 }
open Go.RowKit in
/-- strings.trimRightByte (no doc; what TrimRight and Trim call at a cutset of one ASCII byte): the trailing bytes that are c are cut off. The world is as it was. ('hs': a string's length is a number that an int holds.) (LAID: no walk: one application.) -/
theorem Tryz.strings_trimRightByte (s : ByteArray) (c : UInt8) (w : World) (hs : s.size ≤ 9223372036854775807) :
    Calls Tryz.prog 175 #[.string s, .int .u8 c.toNat] w fun e w' => e = .returned (.string ⟨(Lib.trimRightB s.data.toList c).toArray⟩) ∧ w' = w := Any.strings_trimRightByte Tryz.lays232 s c w hs
def Tryz.lays160_ren : Go.Shelf.Ren := ⟨fun | 160 => 148 | 232 => 175 | 231 => 174 | 227 => 176 | 234 => 178 | 233 => 177 | 236 => 180 | 235 => 179 | 228 => 200 | 271 => 202 | 151 => 201 | 197 => 189 | 120 => 210 | 152 => 209 | 260 => 206 | 137 => 166 | 119 => 211 | 224 => 198 | 225 => 197 | 217 => 193 | 266 => 207 | n => n, fun | 9 => 9 | 4 => 4 | 3 => 3 | 5 => 5 | 117 => 246 | 116 => 245 | 0 => 0 | 124 => 249 | 21 => 21 | 105 => 254 | 46 => 260 | 119 => 267 | 139 => 270 | 138 => 269 | n => n, fun | 3 => 1 | 4 => 2 | n => n⟩
theorem Tryz.lays160 : Go.Proofs.Lays.n160 Tryz.prog Tryz.lays160_ren := {
  mixed := by kernel_rfl
  f119 := Tryz.func211.trans (congrArg some (by kernel_rfl))
  f120 := Tryz.func210.trans (congrArg some (by kernel_rfl))
  f137 := Tryz.func166.trans (congrArg some (by kernel_rfl))
  f151 := Tryz.func201.trans (congrArg some (by kernel_rfl))
  f152 := Tryz.func209.trans (congrArg some (by kernel_rfl))
  f160 := Tryz.func148.trans (congrArg some (by kernel_rfl))
  f197 := Tryz.func189.trans (congrArg some (by kernel_rfl))
  f217 := Tryz.func193.trans (congrArg some (by kernel_rfl))
  f224 := Tryz.func198.trans (congrArg some (by kernel_rfl))
  f225 := Tryz.func197.trans (congrArg some (by kernel_rfl))
  f227 := Tryz.func176.trans (congrArg some (by kernel_rfl))
  f228 := Tryz.func200.trans (congrArg some (by kernel_rfl))
  f231 := Tryz.func174.trans (congrArg some (by kernel_rfl))
  f232 := Tryz.func175.trans (congrArg some (by kernel_rfl))
  f233 := Tryz.func177.trans (congrArg some (by kernel_rfl))
  f234 := Tryz.func178.trans (congrArg some (by kernel_rfl))
  f235 := Tryz.func179.trans (congrArg some (by kernel_rfl))
  f236 := Tryz.func180.trans (congrArg some (by kernel_rfl))
  f260 := Tryz.func206.trans (congrArg some (by kernel_rfl))
  f266 := Tryz.func207.trans (congrArg some (by kernel_rfl))
  f271 := Tryz.func202.trans (congrArg some (by kernel_rfl))
  t0 := Tryz.underlying0
  a0 := Tryz.isAgg0
  z0 := Tryz.sizeOf0
  v0 := Tryz.zeroValue0
  t3 := Tryz.underlying3
  a3 := Tryz.isAgg3
  z3 := Tryz.sizeOf3
  v3 := Tryz.zeroValue3
  t4 := Tryz.underlying4
  a4 := Tryz.isAgg4
  z4 := Tryz.sizeOf4
  v4 := Tryz.zeroValue4
  t5 := Tryz.underlying5
  a5 := Tryz.isAgg5
  z5 := Tryz.sizeOf5
  v5 := Tryz.zeroValue5
  t9 := Tryz.underlying9
  a9 := Tryz.isAgg9
  z9 := Tryz.sizeOf9
  v9 := Tryz.zeroValue9
  t21 := Tryz.underlying21
  a21 := Tryz.isAgg21
  z21 := Tryz.sizeOf21
  v21 := Tryz.zeroValue21
  t46 := Tryz.underlying260
  a46 := Tryz.isAgg260
  z46 := Tryz.sizeOf260
  v46 := Tryz.zeroValue260
  t105 := Tryz.underlying254
  a105 := Tryz.isAgg254
  z105 := Tryz.sizeOf254
  v105 := Tryz.zeroValue254
  t116 := Tryz.underlying245
  a116 := Tryz.isAgg245
  z116 := Tryz.sizeOf245
  t117 := Tryz.underlying246
  a117 := Tryz.isAgg246
  z117 := Tryz.sizeOf246
  v117 := Tryz.zeroValue246
  t119 := Tryz.underlying267
  a119 := Tryz.isAgg267
  z119 := Tryz.sizeOf267
  t124 := Tryz.underlying249
  a124 := Tryz.isAgg249
  z124 := Tryz.sizeOf249
  v124 := Tryz.zeroValue249
  t138 := Tryz.underlying269
  a138 := Tryz.isAgg269
  z138 := Tryz.sizeOf269
  v138 := Tryz.zeroValue269
  t139 := Tryz.underlying270
  a139 := Tryz.isAgg270
  z139 := Tryz.sizeOf270
  v139 := Tryz.zeroValue270
  g3 := by kernel_rfl
  g4 := by kernel_rfl }
open Go.RowKit in
/-- strings.Trim: "Trim returns a slice of the string s with all leading and trailing Unicode code points contained in cutset removed.": AT A cutset OF ONE ASCII BYTE. THE WORLD BEHIND IT: as it was, or (where s is not empty) with ONE DRAW MORE off the tape: the statement 'return trimLeftByte(trimRightByte(s, c), c)' draws its order of evaluation. (LAID: no walk: one application.) -/
theorem Tryz.strings_Trim_one (s : ByteArray) (c : UInt8) (hc : c.toNat < 128) (w : World) (hs : s.size ≤ 9223372036854775807) :
    Calls Tryz.prog 148 #[.string s, .string ⟨#[c]⟩] w fun e w' => e = .returned (.string ⟨(Lib.trimB s.data.toList c).toArray⟩) ∧ (w' = w ∨ w' = w.drew) := Any.strings_Trim_one Tryz.lays160 s c hc w hs
def Tryz.lays119_ren : Go.Shelf.Ren := ⟨fun | 119 => 211 | n => n, fun | 21 => 21 | 4 => 4 | n => n, fun | n => n⟩
def Tryz.lays120_ren : Go.Shelf.Ren := ⟨fun | 120 => 210 | n => n, fun | 5 => 5 | 4 => 4 | n => n, fun | n => n⟩
def Tryz.lays137_ren : Go.Shelf.Ren := ⟨fun | 137 => 166 | 217 => 193 | 266 => 207 | n => n, fun | 9 => 9 | 5 => 5 | 3 => 3 | n => n, fun | n => n⟩
theorem Tryz.lays137 : Go.Proofs.Lays.n137 Tryz.prog Tryz.lays137_ren := {
  mixed := by kernel_rfl
  f137 := Tryz.func166.trans (congrArg some (by kernel_rfl))
  f217 := Tryz.func193.trans (congrArg some (by kernel_rfl))
  f266 := Tryz.func207.trans (congrArg some (by kernel_rfl))
  t3 := Tryz.underlying3
  a3 := Tryz.isAgg3
  z3 := Tryz.sizeOf3
  v3 := Tryz.zeroValue3
  t5 := Tryz.underlying5
  a5 := Tryz.isAgg5
  z5 := Tryz.sizeOf5
  v5 := Tryz.zeroValue5
  t9 := Tryz.underlying9
  a9 := Tryz.isAgg9
  z9 := Tryz.sizeOf9
  v9 := Tryz.zeroValue9 }
open Go.RowKit in
/-- strings.IndexByte: "IndexByte returns the index of the first instance of c in s, or -1 if c is not present in s.": IT RETURNS 'Lib.indexByte s c'; the world is as it was. (LAID: no walk: one application.) -/
theorem Tryz.strings_IndexByte (s : ByteArray) (c : Int) (w : World) :
    Calls Tryz.prog 166 #[.string s, .int .u8 c] w fun e w' => e = .returned (.int .i64 (Lib.indexByte s.data.toList c.toNat.toUInt8)) ∧ w' = w := Any.strings_IndexByte Tryz.lays137 s c w
def Tryz.lays210_ren : Go.Shelf.Ren := ⟨fun | 210 => 191 | 206 => 181 | n => n, fun | 9 => 9 | 4 => 4 | 3 => 3 | n => n, fun | n => n⟩
theorem Tryz.lays210 : Go.Proofs.Lays.n210 Tryz.prog Tryz.lays210_ren := {
  mixed := by kernel_rfl
  f206 := Tryz.func181.trans (congrArg some (by kernel_rfl))
  f210 := Tryz.func191.trans (congrArg some (by kernel_rfl))
  t3 := Tryz.underlying3
  a3 := Tryz.isAgg3
  z3 := Tryz.sizeOf3
  v3 := Tryz.zeroValue3
  t4 := Tryz.underlying4
  a4 := Tryz.isAgg4
  z4 := Tryz.sizeOf4
  v4 := Tryz.zeroValue4
  t9 := Tryz.underlying9
  a9 := Tryz.isAgg9
  z9 := Tryz.sizeOf9
  v9 := Tryz.zeroValue9 }
open Go.RowKit in
/-- internal/stringslite.CutPrefix (what strings.CutPrefix calls). (LAID: no walk: one application.) -/
theorem Tryz.stringslite_CutPrefix (s p : ByteArray) (w : World) :
    Calls Tryz.prog 191 #[.string s, .string p] w fun e w' => e = .returned (.tuple #[.string ⟨(Lib.trimPrefix s.data.toList p.data.toList).toArray⟩, .bool (Lib.hasPrefix s.data.toList p.data.toList)]) ∧ w' = w := Any.stringslite_CutPrefix Tryz.lays210 s p w
def Tryz.lays103_ren : Go.Shelf.Ren := ⟨fun | 103 => 163 | 210 => 191 | 206 => 181 | n => n, fun | 9 => 9 | 4 => 4 | 24 => 74 | 3 => 3 | n => n, fun | n => n⟩
theorem Tryz.lays103 : Go.Proofs.Lays.n103 Tryz.prog Tryz.lays103_ren := {
  mixed := by kernel_rfl
  f103 := Tryz.func163.trans (congrArg some (by kernel_rfl))
  f206 := Tryz.func181.trans (congrArg some (by kernel_rfl))
  f210 := Tryz.func191.trans (congrArg some (by kernel_rfl))
  t3 := Tryz.underlying3
  a3 := Tryz.isAgg3
  z3 := Tryz.sizeOf3
  v3 := Tryz.zeroValue3
  t4 := Tryz.underlying4
  a4 := Tryz.isAgg4
  z4 := Tryz.sizeOf4
  v4 := Tryz.zeroValue4
  t9 := Tryz.underlying9
  a9 := Tryz.isAgg9
  z9 := Tryz.sizeOf9
  v9 := Tryz.zeroValue9
  t24 := Tryz.underlying74
  a24 := Tryz.isAgg74
  z24 := Tryz.sizeOf74
  v24 := Tryz.zeroValue74 }
open Go.RowKit in
/-- strings.CutPrefix: "CutPrefix returns s without the provided leading prefix string and reports whether it found the prefix. If s doesn't start with prefix, CutPrefix returns s, false. If prefix is the empty string, CutPrefix returns s, true.": IT RETURNS '(Lib.trimPrefix s p, Lib.hasPrefix s p)'; the world is as it was. (LAID: no walk: one application.) -/
theorem Tryz.strings_CutPrefix (s p : ByteArray) (w : World) :
    Calls Tryz.prog 163 #[.string s, .string p] w fun e w' => e = .returned (.tuple #[.string ⟨(Lib.trimPrefix s.data.toList p.data.toList).toArray⟩, .bool (Lib.hasPrefix s.data.toList p.data.toList)]) ∧ w' = w := Any.strings_CutPrefix Tryz.lays103 s p w
open Go.RowKit in
/-- (*strings.Builder).String: "String returns the accumulated string.": OF A BUILDER THAT HOLDS AT LEAST ONE BYTE. ✋ THE MODEL FREEZES THOSE BYTES IN THE BUFFER (unsafe.String): a later write INTO them ends the model's run without an answer; a later append BEHIND them goes on. The statement's order of evaluation is drawn: one draw. THE FORM '_f': IT SAYS BESIDES THAT THE BUILDER IS A BUILDER STILL ('Lib.IsBuilderF', the same bytes): SO IT CAN BE WRITTEN ON: 'b.WriteString(b.String()[:k])'. (LAID: no walk: one application.) -/
theorem Tryz.Builder_String_f (B b : Nat) (l : List UInt8) (w : World) (h : Lib.IsBuilderF 225 5 B b (Lib.byteCells l) w) (h0 : l ≠ []) :
    Calls Tryz.prog 144 #[.pointer (some ⟨b, 0, none⟩)] w fun e w' => e = .returned (.string ⟨l.toArray⟩) ∧ (Lib.IsBuilderF 225 5 B b (Lib.byteCells l) w' ∧ Below B w w') := Any.Builder_String_f Tryz.lays169 Tryz.Builder_Extra_169 B b l w h h0
open Go.RowKit in
/-- (*strings.Builder).String OF A BUILDER THAT HOLDS NO BYTE: the empty string; THE FORM '_f': a builder still. (LAID: no walk: one application.) -/
theorem Tryz.Builder_String_empty_f (B b : Nat) (w : World) (h : Lib.IsBuilderF 225 5 B b [] w) (hBw : B ≤ w.heap.size) :
    Calls Tryz.prog 144 #[.pointer (some ⟨b, 0, none⟩)] w fun e w' => e = .returned (.string ⟨#[]⟩) ∧ (Lib.IsBuilderF 225 5 B b [] w' ∧ Below B w w') := Any.Builder_String_empty_f Tryz.lays169 Tryz.Builder_Extra_169 B b w h hBw
open Go.RowKit in
/-- (*strings.Builder).String: "String returns the accumulated string.": WHATEVER THE BUILDER HOLDS; THE FORM '_f': OF A BUILDER THAT MAY HAVE BEEN READ BEFORE; AND IT IS A BUILDER STILL, holding the same bytes: it can be written on. (LAID: no walk: one application.) -/
theorem Tryz.Builder_String_any_f (B b : Nat) (l : List UInt8) (w : World) (h : Lib.IsBuilderF 225 5 B b (Lib.byteCells l) w) (hBw : B ≤ w.heap.size) :
    Calls Tryz.prog 144 #[.pointer (some ⟨b, 0, none⟩)] w fun e w' => e = .returned (.string ⟨l.toArray⟩) ∧ (Lib.IsBuilderF 225 5 B b (Lib.byteCells l) w' ∧ Below B w w') := Any.Builder_String_any_f Tryz.lays169 Tryz.Builder_Extra_169 B b l w h hBw
open Go.RowKit in
/-- (*strings.Builder).String: "String returns the accumulated string.": OF A BUILDER THAT HOLDS AT LEAST ONE BYTE. ✋ THE MODEL FREEZES THOSE BYTES IN THE BUFFER (unsafe.String): a later write INTO them ends the model's run without an answer; a later append BEHIND them goes on. The statement's order of evaluation is drawn: one draw. THE FORM '_k': OVER 'Lib.IsBuilderF' (a builder that 'String()' may have read), AND WITH THE FRAME THAT REACHES ABOVE THE BUILDER: 'Lib.OthersKept': every block that is not b and is no row of uint8's stands as it stood: the iterator of a range among them. (LAID: no walk: one application.) -/
theorem Tryz.Builder_String_k (B b : Nat) (l : List UInt8) (w : World) (h : Lib.IsBuilderF 225 5 B b (Lib.byteCells l) w) (h0 : l ≠ []) :
    Calls Tryz.prog 144 #[.pointer (some ⟨b, 0, none⟩)] w fun e w' => e = .returned (.string ⟨l.toArray⟩) ∧ (Lib.IsBuilderF 225 5 B b (Lib.byteCells l) w' ∧ Below B w w' ∧ Lib.OthersKept 5 (some b) w w') := Any.Builder_String_k Tryz.lays169 Tryz.Builder_Extra_169 B b l w h h0
open Go.RowKit in
/-- (*strings.Builder).String OF A BUILDER THAT HOLDS NO BYTE: the empty string; THE FORM '_k': OVER 'Lib.IsBuilderF' (a builder that 'String()' may have read), AND WITH THE FRAME THAT REACHES ABOVE THE BUILDER: 'Lib.OthersKept': every block that is not b and is no row of uint8's stands as it stood: the iterator of a range among them. (LAID: no walk: one application.) -/
theorem Tryz.Builder_String_empty_k (B b : Nat) (w : World) (h : Lib.IsBuilderF 225 5 B b [] w) (hBw : B ≤ w.heap.size) :
    Calls Tryz.prog 144 #[.pointer (some ⟨b, 0, none⟩)] w fun e w' => e = .returned (.string ⟨#[]⟩) ∧ (Lib.IsBuilderF 225 5 B b [] w' ∧ Below B w w' ∧ Lib.OthersKept 5 (some b) w w') := Any.Builder_String_empty_k Tryz.lays169 Tryz.Builder_Extra_169 B b w h hBw
open Go.RowKit in
/-- (*strings.Builder).String: "String returns the accumulated string.": WHATEVER THE BUILDER HOLDS; THE FORM '_k': OVER 'Lib.IsBuilderF' (a builder that 'String()' may have read), AND WITH THE FRAME THAT REACHES ABOVE THE BUILDER: 'Lib.OthersKept': every block that is not b and is no row of uint8's stands as it stood: the iterator of a range among them. (LAID: no walk: one application.) -/
theorem Tryz.Builder_String_any_k (B b : Nat) (l : List UInt8) (w : World) (h : Lib.IsBuilderF 225 5 B b (Lib.byteCells l) w) (hBw : B ≤ w.heap.size) :
    Calls Tryz.prog 144 #[.pointer (some ⟨b, 0, none⟩)] w fun e w' => e = .returned (.string ⟨l.toArray⟩) ∧ (Lib.IsBuilderF 225 5 B b (Lib.byteCells l) w' ∧ Below B w w' ∧ Lib.OthersKept 5 (some b) w w') := Any.Builder_String_any_k Tryz.lays169 Tryz.Builder_Extra_169 B b l w h hBw
open Go.RowKit in
/-- (*strings.Builder).grow (no doc but "grow copies the buffer to a new, larger buffer so that there are at least n bytes of capacity beyond len(b.buf)."): AT A BUILDER WITHOUT A BUFFER: a new row of whatever bytes for its buffer, none of them its own yet. Three draws. (LAID: no walk: one application.) -/
theorem Tryz.Builder_grow_fresh_cap (B b n : Nat) (w : World) (hB : B ≤ b) (hbk : w.heap[b]? = some (.cells #[.pointer (some ⟨b, 0, none⟩), .slice none 0 0] 225 (0, 0))) (hBw : B ≤ w.heap.size) (hn : n ≤ 281474976710656) :
    Calls Tryz.prog 185 #[.pointer (some ⟨b, 0, none⟩), .int .i64 n] w fun e w' => e = .returned (.tuple #[]) ∧ (Lib.BuilderAt 225 5 B b (.pointer (some ⟨b, 0, none⟩)) [] w' ∧ Below B w w') ∧ ∃ p cap, w'.cell? ⟨b, 1, none⟩ = some (.slice p 0 cap) ∧ n ≤ cap := Any.Builder_grow_fresh_cap Tryz.lays241 Tryz.Builder_Extra_241 B b n w hB hbk hBw hn
open Go.RowKit in
/-- (*strings.Builder).Grow AT A BUILDER THAT HAS NOT BEEN WRITTEN ('var b strings.Builder; b.Grow(n)'): "Grow grows b's capacity, if necessary, to guarantee space for another n bytes.": it holds no byte behind it as before it. (LAID: no walk: one application.) -/
theorem Tryz.Builder_Grow_fresh_cap (B b n : Nat) (w : World) (hB : B ≤ b) (hbk : w.heap[b]? = some (.cells #[.pointer none, .slice none 0 0] 225 (0, 0))) (hBw : B ≤ w.heap.size) (hn : n ≤ 281474976710656) :
    Calls Tryz.prog 153 #[.pointer (some ⟨b, 0, none⟩), .int .i64 n] w fun e w' => e = .returned (.tuple #[]) ∧ (Lib.BuilderAt 225 5 B b (.pointer (some ⟨b, 0, none⟩)) [] w' ∧ Below B w w') ∧ ∃ p cap, w'.cell? ⟨b, 1, none⟩ = some (.slice p 0 cap) ∧ n ≤ cap := Any.Builder_Grow_fresh_cap Tryz.lays165 Tryz.Builder_Extra_165 B b n w hB hbk hBw hn
def Tryz.lays217_ren : Go.Shelf.Ren := ⟨fun | 217 => 193 | 266 => 207 | n => n, fun | 9 => 9 | 5 => 5 | 3 => 3 | n => n, fun | n => n⟩
theorem Tryz.lays217 : Go.Proofs.Lays.n217 Tryz.prog Tryz.lays217_ren := {
  mixed := by kernel_rfl
  f217 := Tryz.func193.trans (congrArg some (by kernel_rfl))
  f266 := Tryz.func207.trans (congrArg some (by kernel_rfl))
  t3 := Tryz.underlying3
  a3 := Tryz.isAgg3
  z3 := Tryz.sizeOf3
  v3 := Tryz.zeroValue3
  t5 := Tryz.underlying5
  a5 := Tryz.isAgg5
  z5 := Tryz.sizeOf5
  v5 := Tryz.zeroValue5
  t9 := Tryz.underlying9
  a9 := Tryz.isAgg9
  z9 := Tryz.sizeOf9
  v9 := Tryz.zeroValue9 }
open Go.RowKit Go.Lib in
/-- internal/stringslite.IndexByte (what strings.IndexByte calls): IT RETURNS 'Lib.indexByte s c'; the world is as it was. (LAID: no walk: one application.) -/
theorem Tryz.stringslite_IndexByte (s : ByteArray) (c : Int) (w : World) :
    Calls Tryz.prog 193 #[.string s, .int .u8 c] w fun e w' => e = .returned (.int .i64 (Lib.indexByte s.data.toList c.toNat.toUInt8)) ∧ w' = w := Any.stringslite_IndexByte Tryz.lays217 s c w
def Tryz.lays224_ren : Go.Shelf.Ren := ⟨fun | 224 => 198 | n => n, fun | 3 => 3 | n => n, fun | n => n⟩
theorem Tryz.lays224 : Go.Proofs.Lays.n224 Tryz.prog Tryz.lays224_ren := {
  mixed := by kernel_rfl
  f224 := Tryz.func198.trans (congrArg some (by kernel_rfl))
  t3 := Tryz.underlying3
  a3 := Tryz.isAgg3
  z3 := Tryz.sizeOf3
  v3 := Tryz.zeroValue3 }
open Go.RowKit Go.Lib in
/-- internal/bytealg.Cutover: "Cutover reports the number of failures of IndexByte we should tolerate before switching over to Index. n is the number of bytes processed so far.": on amd64: (n + 16) / 8. (LAID: no walk: one application.) -/
theorem Tryz.bytealg_Cutover (n : Int) (h0 : 0 ≤ n) (h1 : n < 4611686018427387904) (w : World) :
    Calls Tryz.prog 198 #[.int .i64 n] w fun e w' => e = .returned (.int .i64 ((n + 16) / 8)) ∧ w' = w := Any.bytealg_Cutover Tryz.lays224 n h0 h1 w
def Tryz.lays314_ren : Go.Shelf.Ren := ⟨fun | 314 => 208 | n => n, fun | 9 => 9 | 51 => 263 | 3 => 3 | 4 => 4 | 5 => 5 | 46 => 260 | n => n, fun | n => n⟩
theorem Tryz.lays314 : Go.Proofs.Lays.n314 Tryz.prog Tryz.lays314_ren := {
  mixed := by kernel_rfl
  f314 := Tryz.func208.trans (congrArg some (by kernel_rfl))
  t3 := Tryz.underlying3
  a3 := Tryz.isAgg3
  z3 := Tryz.sizeOf3
  v3 := Tryz.zeroValue3
  t4 := Tryz.underlying4
  a4 := Tryz.isAgg4
  z4 := Tryz.sizeOf4
  v4 := Tryz.zeroValue4
  t5 := Tryz.underlying5
  a5 := Tryz.isAgg5
  z5 := Tryz.sizeOf5
  v5 := Tryz.zeroValue5
  t9 := Tryz.underlying9
  a9 := Tryz.isAgg9
  z9 := Tryz.sizeOf9
  v9 := Tryz.zeroValue9
  t46 := Tryz.underlying260
  a46 := Tryz.isAgg260
  z46 := Tryz.sizeOf260
  v46 := Tryz.zeroValue260
  t51 := Tryz.underlying263
  a51 := Tryz.isAgg263
  z51 := Tryz.sizeOf263
  v51 := Tryz.zeroValue263 }
open Go.RowKit Go.Lib in
/-- hashStr: "returns the hash and the appropriate multiplicative factor for use in Rabin-Karp algorithm": THE HASH OF ALL OF sep, AND 16777619 ^ len(sep), both in uint32. (LAID: no walk: one application.) -/
theorem Tryz.bytealg_hashStr (sep : ByteArray) (hs : sep.size < 4294967281) (w : World) :
    Calls Tryz.prog 208 #[.string sep] w fun e w' => e = .returned (.tuple #[.int .u32 (RK.H sep.data.toList % 4294967296), .int .u32 (16777619 ^ sep.size % 4294967296)]) ∧ w' = w := Any.bytealg_hashStr Tryz.lays314 sep hs w
def Tryz.lays267_ren : Go.Shelf.Ren := ⟨fun | 267 => 199 | 314 => 208 | n => n, fun | 9 => 9 | 3 => 3 | 146 => 264 | 51 => 263 | 4 => 4 | 5 => 5 | 46 => 260 | n => n, fun | n => n⟩
theorem Tryz.lays267 : Go.Proofs.Lays.n267 Tryz.prog Tryz.lays267_ren := {
  mixed := by kernel_rfl
  f267 := Tryz.func199.trans (congrArg some (by kernel_rfl))
  f314 := Tryz.func208.trans (congrArg some (by kernel_rfl))
  t3 := Tryz.underlying3
  a3 := Tryz.isAgg3
  z3 := Tryz.sizeOf3
  v3 := Tryz.zeroValue3
  t4 := Tryz.underlying4
  a4 := Tryz.isAgg4
  z4 := Tryz.sizeOf4
  v4 := Tryz.zeroValue4
  t5 := Tryz.underlying5
  a5 := Tryz.isAgg5
  z5 := Tryz.sizeOf5
  v5 := Tryz.zeroValue5
  t9 := Tryz.underlying9
  a9 := Tryz.isAgg9
  z9 := Tryz.sizeOf9
  v9 := Tryz.zeroValue9
  t46 := Tryz.underlying260
  a46 := Tryz.isAgg260
  z46 := Tryz.sizeOf260
  v46 := Tryz.zeroValue260
  t51 := Tryz.underlying263
  a51 := Tryz.isAgg263
  z51 := Tryz.sizeOf263
  v51 := Tryz.zeroValue263
  t146 := Tryz.underlying264
  a146 := Tryz.isAgg264
  z146 := Tryz.sizeOf264
  v146 := Tryz.zeroValue264 }
open Go.RowKit Go.Lib in
theorem Tryz.bytealg_IndexRabinKarp (s sep : ByteArray) (h1 : 1 ≤ sep.size) (h2 : sep.size ≤ s.size) (hs : s.size < 4294967281) (w : World) :
    Calls Tryz.prog 199 #[.string s, .string sep] w fun e w' => e = .returned (.int .i64 (Lib.index s.data.toList sep.data.toList)) ∧ w' = w := Any.bytealg_IndexRabinKarp Tryz.lays267 s sep h1 h2 hs w
def Tryz.lays219_ren : Go.Shelf.Ren := ⟨fun | 219 => 173 | 217 => 193 | 225 => 197 | 224 => 198 | 267 => 199 | 266 => 207 | 314 => 208 | n => n, fun | 9 => 9 | 3 => 3 | 4 => 4 | 5 => 5 | 46 => 260 | 146 => 264 | 51 => 263 | n => n, fun | 1 => 0 | n => n⟩
theorem Tryz.lays219 : Go.Proofs.Lays.n219 Tryz.prog Tryz.lays219_ren := {
  mixed := by kernel_rfl
  f217 := Tryz.func193.trans (congrArg some (by kernel_rfl))
  f219 := Tryz.func173.trans (congrArg some (by kernel_rfl))
  f224 := Tryz.func198.trans (congrArg some (by kernel_rfl))
  f225 := Tryz.func197.trans (congrArg some (by kernel_rfl))
  f266 := Tryz.func207.trans (congrArg some (by kernel_rfl))
  f267 := Tryz.func199.trans (congrArg some (by kernel_rfl))
  f314 := Tryz.func208.trans (congrArg some (by kernel_rfl))
  t3 := Tryz.underlying3
  a3 := Tryz.isAgg3
  z3 := Tryz.sizeOf3
  v3 := Tryz.zeroValue3
  t4 := Tryz.underlying4
  a4 := Tryz.isAgg4
  z4 := Tryz.sizeOf4
  v4 := Tryz.zeroValue4
  t5 := Tryz.underlying5
  a5 := Tryz.isAgg5
  z5 := Tryz.sizeOf5
  v5 := Tryz.zeroValue5
  t9 := Tryz.underlying9
  a9 := Tryz.isAgg9
  z9 := Tryz.sizeOf9
  v9 := Tryz.zeroValue9
  t46 := Tryz.underlying260
  a46 := Tryz.isAgg260
  z46 := Tryz.sizeOf260
  v46 := Tryz.zeroValue260
  t51 := Tryz.underlying263
  a51 := Tryz.isAgg263
  z51 := Tryz.sizeOf263
  v51 := Tryz.zeroValue263
  t146 := Tryz.underlying264
  a146 := Tryz.isAgg264
  z146 := Tryz.sizeOf264
  v146 := Tryz.zeroValue264
  g1 := by kernel_rfl }
open Go.RowKit Go.Lib in
/-- internal/stringslite.Index (what strings.Index calls) AT A substr OF ONE BYTE c: IT RETURNS 'Lib.indexByte s c'; the world is as it was. (LAID: no walk: one application.) -/
theorem Tryz.stringslite_Index_one (s : ByteArray) (c : UInt8) (w : World) :
    Calls Tryz.prog 173 #[.string s, .string ⟨#[c]⟩] w fun e w' => e = .returned (.int .i64 (Lib.indexByte s.data.toList c)) ∧ w' = w := Any.stringslite_Index_one Tryz.lays219 s c w
open Go.RowKit Go.Lib in
/-- internal/stringslite.Index (what strings.Index calls) AT A substr OF WHATEVER LENGTH: IT RETURNS 'Lib.index s substr'; the world is as it was. 'm': what internal/bytealg.MaxLen holds: whatever. (LAID: no walk: one application.) -/
theorem Tryz.stringslite_Index (s sub : ByteArray) (m : Int) (w : World) (hs : s.size < 4294967281) (hm : w.cell? ⟨0, 0, none⟩ = some (.int .i64 m)) :
    Calls Tryz.prog 173 #[.string s, .string sub] w fun e w' => e = .returned (.int .i64 (Lib.index s.data.toList sub.data.toList)) ∧ w' = w := Any.stringslite_Index Tryz.lays219 s sub m w hs hm
def Tryz.lays143_ren : Go.Shelf.Ren := ⟨fun | 143 => 162 | 219 => 173 | 217 => 193 | 225 => 197 | 224 => 198 | 267 => 199 | 266 => 207 | 314 => 208 | n => n, fun | 9 => 9 | 3 => 3 | 4 => 4 | 5 => 5 | 46 => 260 | 146 => 264 | 51 => 263 | n => n, fun | 1 => 0 | n => n⟩
theorem Tryz.lays143 : Go.Proofs.Lays.n143 Tryz.prog Tryz.lays143_ren := {
  mixed := by kernel_rfl
  f143 := Tryz.func162.trans (congrArg some (by kernel_rfl))
  f217 := Tryz.func193.trans (congrArg some (by kernel_rfl))
  f219 := Tryz.func173.trans (congrArg some (by kernel_rfl))
  f224 := Tryz.func198.trans (congrArg some (by kernel_rfl))
  f225 := Tryz.func197.trans (congrArg some (by kernel_rfl))
  f266 := Tryz.func207.trans (congrArg some (by kernel_rfl))
  f267 := Tryz.func199.trans (congrArg some (by kernel_rfl))
  f314 := Tryz.func208.trans (congrArg some (by kernel_rfl))
  t3 := Tryz.underlying3
  a3 := Tryz.isAgg3
  z3 := Tryz.sizeOf3
  v3 := Tryz.zeroValue3
  t4 := Tryz.underlying4
  a4 := Tryz.isAgg4
  z4 := Tryz.sizeOf4
  v4 := Tryz.zeroValue4
  t5 := Tryz.underlying5
  a5 := Tryz.isAgg5
  z5 := Tryz.sizeOf5
  v5 := Tryz.zeroValue5
  t9 := Tryz.underlying9
  a9 := Tryz.isAgg9
  z9 := Tryz.sizeOf9
  v9 := Tryz.zeroValue9
  t46 := Tryz.underlying260
  a46 := Tryz.isAgg260
  z46 := Tryz.sizeOf260
  v46 := Tryz.zeroValue260
  t51 := Tryz.underlying263
  a51 := Tryz.isAgg263
  z51 := Tryz.sizeOf263
  v51 := Tryz.zeroValue263
  t146 := Tryz.underlying264
  a146 := Tryz.isAgg264
  z146 := Tryz.sizeOf264
  v146 := Tryz.zeroValue264
  g1 := by kernel_rfl }
open Go.RowKit Go.Lib in
/-- strings.Index: "Index returns the index of the first instance of substr in s, or -1 if substr is not present in s.": AT A substr OF ONE BYTE c: IT RETURNS 'Lib.indexByte s c'; the world is as it was. (LAID: no walk: one application.) -/
theorem Tryz.strings_Index_one (s : ByteArray) (c : UInt8) (w : World) :
    Calls Tryz.prog 162 #[.string s, .string ⟨#[c]⟩] w fun e w' => e = .returned (.int .i64 (Lib.indexByte s.data.toList c)) ∧ w' = w := Any.strings_Index_one Tryz.lays143 s c w
open Go.RowKit Go.Lib in
/-- strings.Index: "Index returns the index of the first instance of substr in s, or -1 if substr is not present in s.": IT RETURNS 'Lib.index s substr'; the world is as it was. (LAID: no walk: one application.) -/
theorem Tryz.strings_Index (s sub : ByteArray) (m : Int) (w : World) (hs : s.size < 4294967281) (hm : w.cell? ⟨0, 0, none⟩ = some (.int .i64 m)) :
    Calls Tryz.prog 162 #[.string s, .string sub] w fun e w' => e = .returned (.int .i64 (Lib.index s.data.toList sub.data.toList)) ∧ w' = w := Any.strings_Index Tryz.lays143 s sub m w hs hm
def Tryz.lays144_ren : Go.Shelf.Ren := ⟨fun | 144 => 147 | 143 => 162 | 219 => 173 | 217 => 193 | 225 => 197 | 224 => 198 | 267 => 199 | 266 => 207 | 314 => 208 | n => n, fun | 9 => 9 | 4 => 4 | 3 => 3 | 5 => 5 | 46 => 260 | 146 => 264 | 51 => 263 | n => n, fun | 1 => 0 | n => n⟩
theorem Tryz.lays144 : Go.Proofs.Lays.n144 Tryz.prog Tryz.lays144_ren := {
  mixed := by kernel_rfl
  f143 := Tryz.func162.trans (congrArg some (by kernel_rfl))
  f144 := Tryz.func147.trans (congrArg some (by kernel_rfl))
  f217 := Tryz.func193.trans (congrArg some (by kernel_rfl))
  f219 := Tryz.func173.trans (congrArg some (by kernel_rfl))
  f224 := Tryz.func198.trans (congrArg some (by kernel_rfl))
  f225 := Tryz.func197.trans (congrArg some (by kernel_rfl))
  f266 := Tryz.func207.trans (congrArg some (by kernel_rfl))
  f267 := Tryz.func199.trans (congrArg some (by kernel_rfl))
  f314 := Tryz.func208.trans (congrArg some (by kernel_rfl))
  t3 := Tryz.underlying3
  a3 := Tryz.isAgg3
  z3 := Tryz.sizeOf3
  v3 := Tryz.zeroValue3
  t4 := Tryz.underlying4
  a4 := Tryz.isAgg4
  z4 := Tryz.sizeOf4
  v4 := Tryz.zeroValue4
  t5 := Tryz.underlying5
  a5 := Tryz.isAgg5
  z5 := Tryz.sizeOf5
  v5 := Tryz.zeroValue5
  t9 := Tryz.underlying9
  a9 := Tryz.isAgg9
  z9 := Tryz.sizeOf9
  v9 := Tryz.zeroValue9
  t46 := Tryz.underlying260
  a46 := Tryz.isAgg260
  z46 := Tryz.sizeOf260
  v46 := Tryz.zeroValue260
  t51 := Tryz.underlying263
  a51 := Tryz.isAgg263
  z51 := Tryz.sizeOf263
  v51 := Tryz.zeroValue263
  t146 := Tryz.underlying264
  a146 := Tryz.isAgg264
  z146 := Tryz.sizeOf264
  v146 := Tryz.zeroValue264
  g1 := by kernel_rfl }
open Go.RowKit Go.Lib in
/-- strings.Contains: "Contains reports whether substr is within s.": AT A substr OF ONE BYTE c: IT RETURNS 'decide (0 ≤ Lib.indexByte s c)'; the world is as it was. (LAID: no walk: one application.) -/
theorem Tryz.strings_Contains_one (s : ByteArray) (c : UInt8) (w : World) :
    Calls Tryz.prog 147 #[.string s, .string ⟨#[c]⟩] w fun e w' => e = .returned (.bool (decide (0 ≤ Lib.indexByte s.data.toList c))) ∧ w' = w := Any.strings_Contains_one Tryz.lays144 s c w
open Go.RowKit Go.Lib in
/-- strings.Contains: "Contains reports whether substr is within s.": IT RETURNS 'Lib.contains s substr'; the world is as it was. (LAID: no walk: one application.) -/
theorem Tryz.strings_Contains (s sub : ByteArray) (m : Int) (w : World) (hs : s.size < 4294967281) (hm : w.cell? ⟨0, 0, none⟩ = some (.int .i64 m)) :
    Calls Tryz.prog 147 #[.string s, .string sub] w fun e w' => e = .returned (.bool (Lib.contains s.data.toList sub.data.toList)) ∧ w' = w := Any.strings_Contains Tryz.lays144 s sub m w hs hm
def Tryz.lays220_ren : Go.Shelf.Ren := ⟨fun | 220 => 146 | 219 => 173 | 217 => 193 | 225 => 197 | 224 => 198 | 267 => 199 | 266 => 207 | 314 => 208 | n => n, fun | 9 => 9 | 4 => 4 | 3 => 3 | 5 => 5 | 46 => 260 | 146 => 264 | 51 => 263 | n => n, fun | 1 => 0 | n => n⟩
theorem Tryz.lays220 : Go.Proofs.Lays.n220 Tryz.prog Tryz.lays220_ren := {
  mixed := by kernel_rfl
  f217 := Tryz.func193.trans (congrArg some (by kernel_rfl))
  f219 := Tryz.func173.trans (congrArg some (by kernel_rfl))
  f220 := Tryz.func146.trans (congrArg some (by kernel_rfl))
  f224 := Tryz.func198.trans (congrArg some (by kernel_rfl))
  f225 := Tryz.func197.trans (congrArg some (by kernel_rfl))
  f266 := Tryz.func207.trans (congrArg some (by kernel_rfl))
  f267 := Tryz.func199.trans (congrArg some (by kernel_rfl))
  f314 := Tryz.func208.trans (congrArg some (by kernel_rfl))
  t3 := Tryz.underlying3
  a3 := Tryz.isAgg3
  z3 := Tryz.sizeOf3
  v3 := Tryz.zeroValue3
  t4 := Tryz.underlying4
  a4 := Tryz.isAgg4
  z4 := Tryz.sizeOf4
  v4 := Tryz.zeroValue4
  t5 := Tryz.underlying5
  a5 := Tryz.isAgg5
  z5 := Tryz.sizeOf5
  v5 := Tryz.zeroValue5
  t9 := Tryz.underlying9
  a9 := Tryz.isAgg9
  z9 := Tryz.sizeOf9
  v9 := Tryz.zeroValue9
  t46 := Tryz.underlying260
  a46 := Tryz.isAgg260
  z46 := Tryz.sizeOf260
  v46 := Tryz.zeroValue260
  t51 := Tryz.underlying263
  a51 := Tryz.isAgg263
  z51 := Tryz.sizeOf263
  v51 := Tryz.zeroValue263
  t146 := Tryz.underlying264
  a146 := Tryz.isAgg264
  z146 := Tryz.sizeOf264
  v146 := Tryz.zeroValue264
  g1 := by kernel_rfl }
open Go.RowKit Go.Lib in
/-- internal/stringslite.Cut (what strings.Cut calls): IT RETURNS 'Lib.cut s sep'; the world is as it was but for the count of draws. (LAID: no walk: one application.) -/
theorem Tryz.stringslite_Cut (s sep : ByteArray) (m : Int) (w : World) (hs : s.size < 4294967281) (hm : w.cell? ⟨0, 0, none⟩ = some (.int .i64 m)) :
    Calls Tryz.prog 146 #[.string s, .string sep] w fun e w' => e = .returned (.tuple #[.string ⟨(Lib.cut s.data.toList sep.data.toList).1.toArray⟩, .string ⟨(Lib.cut s.data.toList sep.data.toList).2.1.toArray⟩, .bool (Lib.cut s.data.toList sep.data.toList).2.2]) ∧ ∃ n, w' = w.drewN n := Any.stringslite_Cut Tryz.lays220 s sep m w hs hm
def Tryz.lays145_ren : Go.Shelf.Ren := ⟨fun | 145 => 116 | 220 => 146 | 219 => 173 | 217 => 193 | 225 => 197 | 224 => 198 | 267 => 199 | 266 => 207 | 314 => 208 | n => n, fun | 9 => 9 | 4 => 4 | 59 => 196 | 3 => 3 | 5 => 5 | 46 => 260 | 146 => 264 | 51 => 263 | n => n, fun | 1 => 0 | n => n⟩
theorem Tryz.lays145 : Go.Proofs.Lays.n145 Tryz.prog Tryz.lays145_ren := {
  mixed := by kernel_rfl
  f145 := Tryz.func116.trans (congrArg some (by kernel_rfl))
  f217 := Tryz.func193.trans (congrArg some (by kernel_rfl))
  f219 := Tryz.func173.trans (congrArg some (by kernel_rfl))
  f220 := Tryz.func146.trans (congrArg some (by kernel_rfl))
  f224 := Tryz.func198.trans (congrArg some (by kernel_rfl))
  f225 := Tryz.func197.trans (congrArg some (by kernel_rfl))
  f266 := Tryz.func207.trans (congrArg some (by kernel_rfl))
  f267 := Tryz.func199.trans (congrArg some (by kernel_rfl))
  f314 := Tryz.func208.trans (congrArg some (by kernel_rfl))
  t3 := Tryz.underlying3
  a3 := Tryz.isAgg3
  z3 := Tryz.sizeOf3
  v3 := Tryz.zeroValue3
  t4 := Tryz.underlying4
  a4 := Tryz.isAgg4
  z4 := Tryz.sizeOf4
  v4 := Tryz.zeroValue4
  t5 := Tryz.underlying5
  a5 := Tryz.isAgg5
  z5 := Tryz.sizeOf5
  v5 := Tryz.zeroValue5
  t9 := Tryz.underlying9
  a9 := Tryz.isAgg9
  z9 := Tryz.sizeOf9
  v9 := Tryz.zeroValue9
  t46 := Tryz.underlying260
  a46 := Tryz.isAgg260
  z46 := Tryz.sizeOf260
  v46 := Tryz.zeroValue260
  t51 := Tryz.underlying263
  a51 := Tryz.isAgg263
  z51 := Tryz.sizeOf263
  v51 := Tryz.zeroValue263
  t59 := Tryz.underlying196
  a59 := Tryz.isAgg196
  z59 := Tryz.sizeOf196
  v59 := Tryz.zeroValue196
  t146 := Tryz.underlying264
  a146 := Tryz.isAgg264
  z146 := Tryz.sizeOf264
  v146 := Tryz.zeroValue264
  g1 := by kernel_rfl }
open Go.RowKit Go.Lib in
/-- strings.Cut: "Cut slices s around the first instance of sep, returning the text before and after sep. The found result reports whether sep appears in s. If sep does not appear in s, cut returns s, "", false.": IT RETURNS 'Lib.cut s sep'; the world is as it was but for the count of draws. (LAID: no walk: one application.) -/
theorem Tryz.strings_Cut (s sep : ByteArray) (m : Int) (w : World) (hs : s.size < 4294967281) (hm : w.cell? ⟨0, 0, none⟩ = some (.int .i64 m)) :
    Calls Tryz.prog 116 #[.string s, .string sep] w fun e w' => e = .returned (.tuple #[.string ⟨(Lib.cut s.data.toList sep.data.toList).1.toArray⟩, .string ⟨(Lib.cut s.data.toList sep.data.toList).2.1.toArray⟩, .bool (Lib.cut s.data.toList sep.data.toList).2.2]) ∧ ∃ n, w' = w.drewN n := Any.strings_Cut Tryz.lays145 s sep m w hs hm
def Tryz.lays138_ren : Go.Shelf.Ren := ⟨fun | 138 => 161 | 195 => 188 | 218 => 190 | 143 => 162 | 219 => 173 | 217 => 193 | 225 => 197 | 224 => 198 | 267 => 199 | 266 => 207 | 314 => 208 | n => n, fun | 9 => 9 | 3 => 3 | 4 => 4 | 5 => 5 | 0 => 0 | 46 => 260 | 146 => 264 | 51 => 263 | n => n, fun | 1 => 0 | n => n⟩
theorem Tryz.lays138 : Go.Proofs.Lays.n138 Tryz.prog Tryz.lays138_ren := {
  mixed := by kernel_rfl
  f138 := Tryz.func161.trans (congrArg some (by kernel_rfl))
  f143 := Tryz.func162.trans (congrArg some (by kernel_rfl))
  f195 := Tryz.func188.trans (congrArg some (by kernel_rfl))
  f217 := Tryz.func193.trans (congrArg some (by kernel_rfl))
  f218 := Tryz.func190.trans (congrArg some (by kernel_rfl))
  f219 := Tryz.func173.trans (congrArg some (by kernel_rfl))
  f224 := Tryz.func198.trans (congrArg some (by kernel_rfl))
  f225 := Tryz.func197.trans (congrArg some (by kernel_rfl))
  f266 := Tryz.func207.trans (congrArg some (by kernel_rfl))
  f267 := Tryz.func199.trans (congrArg some (by kernel_rfl))
  f314 := Tryz.func208.trans (congrArg some (by kernel_rfl))
  t0 := Tryz.underlying0
  a0 := Tryz.isAgg0
  z0 := Tryz.sizeOf0
  v0 := Tryz.zeroValue0
  t3 := Tryz.underlying3
  a3 := Tryz.isAgg3
  z3 := Tryz.sizeOf3
  v3 := Tryz.zeroValue3
  t4 := Tryz.underlying4
  a4 := Tryz.isAgg4
  z4 := Tryz.sizeOf4
  v4 := Tryz.zeroValue4
  t5 := Tryz.underlying5
  a5 := Tryz.isAgg5
  z5 := Tryz.sizeOf5
  v5 := Tryz.zeroValue5
  t9 := Tryz.underlying9
  a9 := Tryz.isAgg9
  z9 := Tryz.sizeOf9
  v9 := Tryz.zeroValue9
  t46 := Tryz.underlying260
  a46 := Tryz.isAgg260
  z46 := Tryz.sizeOf260
  v46 := Tryz.zeroValue260
  t51 := Tryz.underlying263
  a51 := Tryz.isAgg263
  z51 := Tryz.sizeOf263
  v51 := Tryz.zeroValue263
  t146 := Tryz.underlying264
  a146 := Tryz.isAgg264
  z146 := Tryz.sizeOf264
  v146 := Tryz.zeroValue264
  g1 := by kernel_rfl }
open Go.RowKit Go.Lib in
/-- strings.Count AT A substr OF ONE BYTE ('hp'): "Count counts the number of non-overlapping instances of substr in s.": IT RETURNS 'Lib.countByte s (that byte)'; the world is as it was. ✋ NO CONTRACT HERE YET at an empty substr (utf8.RuneCountInString) or at a longer one (a loop over strings.Index). (LAID: no walk: one application.) -/
theorem Tryz.strings_Count_one (s : ByteArray) (c : UInt8) (w : World) :
    Calls Tryz.prog 161 #[.string s, .string ⟨#[c]⟩] w fun e w' => e = .returned (.int .i64 (Lib.countByte s.data.toList c)) ∧ w' = w := Any.strings_Count_one Tryz.lays138 s c w
open Go.RowKit Go.Lib in
/-- strings.Count AT A substr OF TWO BYTES OR MORE: "Count counts the number of non-overlapping instances of substr in s.": IT RETURNS 'Lib.count s substr'; the world is as it was. (LAID: no walk: one application.) -/
theorem Tryz.strings_Count (s sub : ByteArray) (m : Int) (w : World) (hs : s.size < 4294967281) (hm : w.cell? ⟨0, 0, none⟩ = some (.int .i64 m)) (h2 : 2 ≤ sub.size) :
    Calls Tryz.prog 161 #[.string s, .string sub] w fun e w' => e = .returned (.int .i64 (Lib.countB s sub)) ∧ w' = w := Any.strings_Count Tryz.lays138 s sub m w hs hm h2
def Tryz.laysM219_ren : Go.Shelf.Ren := ⟨fun | 219 => 173 | 217 => 193 | 225 => 197 | 224 => 198 | 267 => 199 | 266 => 207 | 314 => 208 | n => n, fun | 9 => 9 | 3 => 3 | 4 => 4 | 5 => 5 | 46 => 260 | 146 => 264 | 51 => 263 | n => n, fun | 1 => 0 | n => n⟩
theorem Tryz.laysM219 : Go.Proofs.LaysM.n219 Tryz.prog Tryz.laysM219_ren := {
  mixed := by kernel_rfl
  f217 := Tryz.func193.trans (congrArg some (by kernel_rfl))
  f219 := Tryz.func173.trans (congrArg some (by kernel_rfl))
  f224 := Tryz.func198.trans (congrArg some (by kernel_rfl))
  f225 := Tryz.func197.trans (congrArg some (by kernel_rfl))
  f266 := Tryz.func207.trans (congrArg some (by kernel_rfl))
  f267 := Tryz.func199.trans (congrArg some (by kernel_rfl))
  f314 := Tryz.func208.trans (congrArg some (by kernel_rfl))
  t3 := Tryz.underlying3
  a3 := Tryz.isAgg3
  z3 := Tryz.sizeOf3
  v3 := Tryz.zeroValue3
  t4 := Tryz.underlying4
  a4 := Tryz.isAgg4
  z4 := Tryz.sizeOf4
  v4 := Tryz.zeroValue4
  t5 := Tryz.underlying5
  a5 := Tryz.isAgg5
  z5 := Tryz.sizeOf5
  v5 := Tryz.zeroValue5
  t9 := Tryz.underlying9
  a9 := Tryz.isAgg9
  z9 := Tryz.sizeOf9
  v9 := Tryz.zeroValue9
  t46 := Tryz.underlying260
  a46 := Tryz.isAgg260
  z46 := Tryz.sizeOf260
  v46 := Tryz.zeroValue260
  t51 := Tryz.underlying263
  a51 := Tryz.isAgg263
  z51 := Tryz.sizeOf263
  v51 := Tryz.zeroValue263
  t146 := Tryz.underlying264
  a146 := Tryz.isAgg264
  z146 := Tryz.sizeOf264
  v146 := Tryz.zeroValue264
  g1 := by kernel_rfl
  i3 := by kernel_rfl
  i4 := by kernel_rfl
  i5 := by kernel_rfl
  i9 := by kernel_rfl
  i46 := by kernel_rfl
  i51 := by kernel_rfl
  i146 := by kernel_rfl
  m1 := by kernel_rfl
  s1_3 := fun w h => Go.Proofs.cell_of_shapedOpen_int (zero := #[.int .i64 0]) (t := 3) h (of_decide_eq_true (by kernel_rfl)) (by kernel_rfl) rfl (by kernel_rfl) (by kernel_rfl) Tryz.underlying3 }
open Go.RowKit Go.Lib in
theorem Tryz.stringslite_Index_shaped (s sub : ByteArray) (w : World) (h : w.ShapedOpen Tryz.prog) (hs : s.size < 4294967281) :
    Calls Tryz.prog 173 #[.string s, .string sub] w fun e w' => e = .returned (.int .i64 (Lib.index s.data.toList sub.data.toList)) ∧ w' = w := Any.stringslite_Index_shaped Tryz.laysM219 s sub w h hs
def Tryz.laysM143_ren : Go.Shelf.Ren := ⟨fun | 143 => 162 | 219 => 173 | 217 => 193 | 225 => 197 | 224 => 198 | 267 => 199 | 266 => 207 | 314 => 208 | n => n, fun | 9 => 9 | 3 => 3 | 4 => 4 | 5 => 5 | 46 => 260 | 146 => 264 | 51 => 263 | n => n, fun | 1 => 0 | n => n⟩
theorem Tryz.laysM143 : Go.Proofs.LaysM.n143 Tryz.prog Tryz.laysM143_ren := {
  mixed := by kernel_rfl
  f143 := Tryz.func162.trans (congrArg some (by kernel_rfl))
  f217 := Tryz.func193.trans (congrArg some (by kernel_rfl))
  f219 := Tryz.func173.trans (congrArg some (by kernel_rfl))
  f224 := Tryz.func198.trans (congrArg some (by kernel_rfl))
  f225 := Tryz.func197.trans (congrArg some (by kernel_rfl))
  f266 := Tryz.func207.trans (congrArg some (by kernel_rfl))
  f267 := Tryz.func199.trans (congrArg some (by kernel_rfl))
  f314 := Tryz.func208.trans (congrArg some (by kernel_rfl))
  t3 := Tryz.underlying3
  a3 := Tryz.isAgg3
  z3 := Tryz.sizeOf3
  v3 := Tryz.zeroValue3
  t4 := Tryz.underlying4
  a4 := Tryz.isAgg4
  z4 := Tryz.sizeOf4
  v4 := Tryz.zeroValue4
  t5 := Tryz.underlying5
  a5 := Tryz.isAgg5
  z5 := Tryz.sizeOf5
  v5 := Tryz.zeroValue5
  t9 := Tryz.underlying9
  a9 := Tryz.isAgg9
  z9 := Tryz.sizeOf9
  v9 := Tryz.zeroValue9
  t46 := Tryz.underlying260
  a46 := Tryz.isAgg260
  z46 := Tryz.sizeOf260
  v46 := Tryz.zeroValue260
  t51 := Tryz.underlying263
  a51 := Tryz.isAgg263
  z51 := Tryz.sizeOf263
  v51 := Tryz.zeroValue263
  t146 := Tryz.underlying264
  a146 := Tryz.isAgg264
  z146 := Tryz.sizeOf264
  v146 := Tryz.zeroValue264
  g1 := by kernel_rfl
  i3 := by kernel_rfl
  i4 := by kernel_rfl
  i5 := by kernel_rfl
  i9 := by kernel_rfl
  i46 := by kernel_rfl
  i51 := by kernel_rfl
  i146 := by kernel_rfl
  m1 := by kernel_rfl
  s1_3 := fun w h => Go.Proofs.cell_of_shapedOpen_int (zero := #[.int .i64 0]) (t := 3) h (of_decide_eq_true (by kernel_rfl)) (by kernel_rfl) rfl (by kernel_rfl) (by kernel_rfl) Tryz.underlying3 }
open Go.RowKit Go.Lib in
theorem Tryz.strings_Index_shaped (s sub : ByteArray) (w : World) (h : w.ShapedOpen Tryz.prog) (hs : s.size < 4294967281) :
    Calls Tryz.prog 162 #[.string s, .string sub] w fun e w' => e = .returned (.int .i64 (Lib.index s.data.toList sub.data.toList)) ∧ w' = w := Any.strings_Index_shaped Tryz.laysM143 s sub w h hs
def Tryz.laysM144_ren : Go.Shelf.Ren := ⟨fun | 144 => 147 | 143 => 162 | 219 => 173 | 217 => 193 | 225 => 197 | 224 => 198 | 267 => 199 | 266 => 207 | 314 => 208 | n => n, fun | 9 => 9 | 4 => 4 | 3 => 3 | 5 => 5 | 46 => 260 | 146 => 264 | 51 => 263 | n => n, fun | 1 => 0 | n => n⟩
theorem Tryz.laysM144 : Go.Proofs.LaysM.n144 Tryz.prog Tryz.laysM144_ren := {
  mixed := by kernel_rfl
  f143 := Tryz.func162.trans (congrArg some (by kernel_rfl))
  f144 := Tryz.func147.trans (congrArg some (by kernel_rfl))
  f217 := Tryz.func193.trans (congrArg some (by kernel_rfl))
  f219 := Tryz.func173.trans (congrArg some (by kernel_rfl))
  f224 := Tryz.func198.trans (congrArg some (by kernel_rfl))
  f225 := Tryz.func197.trans (congrArg some (by kernel_rfl))
  f266 := Tryz.func207.trans (congrArg some (by kernel_rfl))
  f267 := Tryz.func199.trans (congrArg some (by kernel_rfl))
  f314 := Tryz.func208.trans (congrArg some (by kernel_rfl))
  t3 := Tryz.underlying3
  a3 := Tryz.isAgg3
  z3 := Tryz.sizeOf3
  v3 := Tryz.zeroValue3
  t4 := Tryz.underlying4
  a4 := Tryz.isAgg4
  z4 := Tryz.sizeOf4
  v4 := Tryz.zeroValue4
  t5 := Tryz.underlying5
  a5 := Tryz.isAgg5
  z5 := Tryz.sizeOf5
  v5 := Tryz.zeroValue5
  t9 := Tryz.underlying9
  a9 := Tryz.isAgg9
  z9 := Tryz.sizeOf9
  v9 := Tryz.zeroValue9
  t46 := Tryz.underlying260
  a46 := Tryz.isAgg260
  z46 := Tryz.sizeOf260
  v46 := Tryz.zeroValue260
  t51 := Tryz.underlying263
  a51 := Tryz.isAgg263
  z51 := Tryz.sizeOf263
  v51 := Tryz.zeroValue263
  t146 := Tryz.underlying264
  a146 := Tryz.isAgg264
  z146 := Tryz.sizeOf264
  v146 := Tryz.zeroValue264
  g1 := by kernel_rfl
  i3 := by kernel_rfl
  i4 := by kernel_rfl
  i5 := by kernel_rfl
  i9 := by kernel_rfl
  i46 := by kernel_rfl
  i51 := by kernel_rfl
  i146 := by kernel_rfl
  m1 := by kernel_rfl
  s1_3 := fun w h => Go.Proofs.cell_of_shapedOpen_int (zero := #[.int .i64 0]) (t := 3) h (of_decide_eq_true (by kernel_rfl)) (by kernel_rfl) rfl (by kernel_rfl) (by kernel_rfl) Tryz.underlying3 }
open Go.RowKit Go.Lib in
theorem Tryz.strings_Contains_shaped (s sub : ByteArray) (w : World) (h : w.ShapedOpen Tryz.prog) (hs : s.size < 4294967281) :
    Calls Tryz.prog 147 #[.string s, .string sub] w fun e w' => e = .returned (.bool (Lib.contains s.data.toList sub.data.toList)) ∧ w' = w := Any.strings_Contains_shaped Tryz.laysM144 s sub w h hs
def Tryz.laysM220_ren : Go.Shelf.Ren := ⟨fun | 220 => 146 | 219 => 173 | 217 => 193 | 225 => 197 | 224 => 198 | 267 => 199 | 266 => 207 | 314 => 208 | n => n, fun | 9 => 9 | 4 => 4 | 3 => 3 | 5 => 5 | 46 => 260 | 146 => 264 | 51 => 263 | n => n, fun | 1 => 0 | n => n⟩
theorem Tryz.laysM220 : Go.Proofs.LaysM.n220 Tryz.prog Tryz.laysM220_ren := {
  mixed := by kernel_rfl
  f217 := Tryz.func193.trans (congrArg some (by kernel_rfl))
  f219 := Tryz.func173.trans (congrArg some (by kernel_rfl))
  f220 := Tryz.func146.trans (congrArg some (by kernel_rfl))
  f224 := Tryz.func198.trans (congrArg some (by kernel_rfl))
  f225 := Tryz.func197.trans (congrArg some (by kernel_rfl))
  f266 := Tryz.func207.trans (congrArg some (by kernel_rfl))
  f267 := Tryz.func199.trans (congrArg some (by kernel_rfl))
  f314 := Tryz.func208.trans (congrArg some (by kernel_rfl))
  t3 := Tryz.underlying3
  a3 := Tryz.isAgg3
  z3 := Tryz.sizeOf3
  v3 := Tryz.zeroValue3
  t4 := Tryz.underlying4
  a4 := Tryz.isAgg4
  z4 := Tryz.sizeOf4
  v4 := Tryz.zeroValue4
  t5 := Tryz.underlying5
  a5 := Tryz.isAgg5
  z5 := Tryz.sizeOf5
  v5 := Tryz.zeroValue5
  t9 := Tryz.underlying9
  a9 := Tryz.isAgg9
  z9 := Tryz.sizeOf9
  v9 := Tryz.zeroValue9
  t46 := Tryz.underlying260
  a46 := Tryz.isAgg260
  z46 := Tryz.sizeOf260
  v46 := Tryz.zeroValue260
  t51 := Tryz.underlying263
  a51 := Tryz.isAgg263
  z51 := Tryz.sizeOf263
  v51 := Tryz.zeroValue263
  t146 := Tryz.underlying264
  a146 := Tryz.isAgg264
  z146 := Tryz.sizeOf264
  v146 := Tryz.zeroValue264
  g1 := by kernel_rfl
  i3 := by kernel_rfl
  i4 := by kernel_rfl
  i5 := by kernel_rfl
  i9 := by kernel_rfl
  i46 := by kernel_rfl
  i51 := by kernel_rfl
  i146 := by kernel_rfl
  m1 := by kernel_rfl
  s1_3 := fun w h => Go.Proofs.cell_of_shapedOpen_int (zero := #[.int .i64 0]) (t := 3) h (of_decide_eq_true (by kernel_rfl)) (by kernel_rfl) rfl (by kernel_rfl) (by kernel_rfl) Tryz.underlying3 }
open Go.RowKit Go.Lib in
theorem Tryz.stringslite_Cut_shaped (s sep : ByteArray) (w : World) (h : w.ShapedOpen Tryz.prog) (hs : s.size < 4294967281) :
    Calls Tryz.prog 146 #[.string s, .string sep] w fun e w' => e = .returned (.tuple #[.string ⟨(Lib.cut s.data.toList sep.data.toList).1.toArray⟩, .string ⟨(Lib.cut s.data.toList sep.data.toList).2.1.toArray⟩, .bool (Lib.cut s.data.toList sep.data.toList).2.2]) ∧ ∃ n, w' = w.drewN n := Any.stringslite_Cut_shaped Tryz.laysM220 s sep w h hs
def Tryz.laysM145_ren : Go.Shelf.Ren := ⟨fun | 145 => 116 | 220 => 146 | 219 => 173 | 217 => 193 | 225 => 197 | 224 => 198 | 267 => 199 | 266 => 207 | 314 => 208 | n => n, fun | 9 => 9 | 4 => 4 | 59 => 196 | 3 => 3 | 5 => 5 | 46 => 260 | 146 => 264 | 51 => 263 | n => n, fun | 1 => 0 | n => n⟩
theorem Tryz.laysM145 : Go.Proofs.LaysM.n145 Tryz.prog Tryz.laysM145_ren := {
  mixed := by kernel_rfl
  f145 := Tryz.func116.trans (congrArg some (by kernel_rfl))
  f217 := Tryz.func193.trans (congrArg some (by kernel_rfl))
  f219 := Tryz.func173.trans (congrArg some (by kernel_rfl))
  f220 := Tryz.func146.trans (congrArg some (by kernel_rfl))
  f224 := Tryz.func198.trans (congrArg some (by kernel_rfl))
  f225 := Tryz.func197.trans (congrArg some (by kernel_rfl))
  f266 := Tryz.func207.trans (congrArg some (by kernel_rfl))
  f267 := Tryz.func199.trans (congrArg some (by kernel_rfl))
  f314 := Tryz.func208.trans (congrArg some (by kernel_rfl))
  t3 := Tryz.underlying3
  a3 := Tryz.isAgg3
  z3 := Tryz.sizeOf3
  v3 := Tryz.zeroValue3
  t4 := Tryz.underlying4
  a4 := Tryz.isAgg4
  z4 := Tryz.sizeOf4
  v4 := Tryz.zeroValue4
  t5 := Tryz.underlying5
  a5 := Tryz.isAgg5
  z5 := Tryz.sizeOf5
  v5 := Tryz.zeroValue5
  t9 := Tryz.underlying9
  a9 := Tryz.isAgg9
  z9 := Tryz.sizeOf9
  v9 := Tryz.zeroValue9
  t46 := Tryz.underlying260
  a46 := Tryz.isAgg260
  z46 := Tryz.sizeOf260
  v46 := Tryz.zeroValue260
  t51 := Tryz.underlying263
  a51 := Tryz.isAgg263
  z51 := Tryz.sizeOf263
  v51 := Tryz.zeroValue263
  t59 := Tryz.underlying196
  a59 := Tryz.isAgg196
  z59 := Tryz.sizeOf196
  v59 := Tryz.zeroValue196
  t146 := Tryz.underlying264
  a146 := Tryz.isAgg264
  z146 := Tryz.sizeOf264
  v146 := Tryz.zeroValue264
  g1 := by kernel_rfl
  i3 := by kernel_rfl
  i4 := by kernel_rfl
  i5 := by kernel_rfl
  i9 := by kernel_rfl
  i46 := by kernel_rfl
  i51 := by kernel_rfl
  i59 := by kernel_rfl
  i146 := by kernel_rfl
  m1 := by kernel_rfl
  s1_3 := fun w h => Go.Proofs.cell_of_shapedOpen_int (zero := #[.int .i64 0]) (t := 3) h (of_decide_eq_true (by kernel_rfl)) (by kernel_rfl) rfl (by kernel_rfl) (by kernel_rfl) Tryz.underlying3 }
open Go.RowKit Go.Lib in
theorem Tryz.strings_Cut_shaped (s sep : ByteArray) (w : World) (h : w.ShapedOpen Tryz.prog) (hs : s.size < 4294967281) :
    Calls Tryz.prog 116 #[.string s, .string sep] w fun e w' => e = .returned (.tuple #[.string ⟨(Lib.cut s.data.toList sep.data.toList).1.toArray⟩, .string ⟨(Lib.cut s.data.toList sep.data.toList).2.1.toArray⟩, .bool (Lib.cut s.data.toList sep.data.toList).2.2]) ∧ ∃ n, w' = w.drewN n := Any.strings_Cut_shaped Tryz.laysM145 s sep w h hs
def Tryz.laysM138_ren : Go.Shelf.Ren := ⟨fun | 138 => 161 | 195 => 188 | 218 => 190 | 143 => 162 | 219 => 173 | 217 => 193 | 225 => 197 | 224 => 198 | 267 => 199 | 266 => 207 | 314 => 208 | n => n, fun | 9 => 9 | 3 => 3 | 4 => 4 | 5 => 5 | 0 => 0 | 46 => 260 | 146 => 264 | 51 => 263 | n => n, fun | 1 => 0 | n => n⟩
theorem Tryz.laysM138 : Go.Proofs.LaysM.n138 Tryz.prog Tryz.laysM138_ren := {
  mixed := by kernel_rfl
  f138 := Tryz.func161.trans (congrArg some (by kernel_rfl))
  f143 := Tryz.func162.trans (congrArg some (by kernel_rfl))
  f195 := Tryz.func188.trans (congrArg some (by kernel_rfl))
  f217 := Tryz.func193.trans (congrArg some (by kernel_rfl))
  f218 := Tryz.func190.trans (congrArg some (by kernel_rfl))
  f219 := Tryz.func173.trans (congrArg some (by kernel_rfl))
  f224 := Tryz.func198.trans (congrArg some (by kernel_rfl))
  f225 := Tryz.func197.trans (congrArg some (by kernel_rfl))
  f266 := Tryz.func207.trans (congrArg some (by kernel_rfl))
  f267 := Tryz.func199.trans (congrArg some (by kernel_rfl))
  f314 := Tryz.func208.trans (congrArg some (by kernel_rfl))
  t0 := Tryz.underlying0
  a0 := Tryz.isAgg0
  z0 := Tryz.sizeOf0
  v0 := Tryz.zeroValue0
  t3 := Tryz.underlying3
  a3 := Tryz.isAgg3
  z3 := Tryz.sizeOf3
  v3 := Tryz.zeroValue3
  t4 := Tryz.underlying4
  a4 := Tryz.isAgg4
  z4 := Tryz.sizeOf4
  v4 := Tryz.zeroValue4
  t5 := Tryz.underlying5
  a5 := Tryz.isAgg5
  z5 := Tryz.sizeOf5
  v5 := Tryz.zeroValue5
  t9 := Tryz.underlying9
  a9 := Tryz.isAgg9
  z9 := Tryz.sizeOf9
  v9 := Tryz.zeroValue9
  t46 := Tryz.underlying260
  a46 := Tryz.isAgg260
  z46 := Tryz.sizeOf260
  v46 := Tryz.zeroValue260
  t51 := Tryz.underlying263
  a51 := Tryz.isAgg263
  z51 := Tryz.sizeOf263
  v51 := Tryz.zeroValue263
  t146 := Tryz.underlying264
  a146 := Tryz.isAgg264
  z146 := Tryz.sizeOf264
  v146 := Tryz.zeroValue264
  g1 := by kernel_rfl
  i0 := by kernel_rfl
  i3 := by kernel_rfl
  i4 := by kernel_rfl
  i5 := by kernel_rfl
  i9 := by kernel_rfl
  i46 := by kernel_rfl
  i51 := by kernel_rfl
  i146 := by kernel_rfl
  m1 := by kernel_rfl
  s1_3 := fun w h => Go.Proofs.cell_of_shapedOpen_int (zero := #[.int .i64 0]) (t := 3) h (of_decide_eq_true (by kernel_rfl)) (by kernel_rfl) rfl (by kernel_rfl) (by kernel_rfl) Tryz.underlying3 }
open Go.RowKit Go.Lib in
theorem Tryz.strings_Count_shaped (s sub : ByteArray) (w : World) (h : w.ShapedOpen Tryz.prog) (hs : s.size < 4294967281) (h2 : 2 ≤ sub.size) :
    Calls Tryz.prog 161 #[.string s, .string sub] w fun e w' => e = .returned (.int .i64 (Lib.countB s sub)) ∧ w' = w := Any.strings_Count_shaped Tryz.laysM138 s sub w h hs h2
def Tryz.lays206_ren : Go.Shelf.Ren := ⟨fun | 206 => 181 | n => n, fun | 9 => 9 | 4 => 4 | 3 => 3 | n => n, fun | n => n⟩
theorem Tryz.lays206 : Go.Proofs.Lays.n206 Tryz.prog Tryz.lays206_ren := {
  mixed := by kernel_rfl
  f206 := Tryz.func181.trans (congrArg some (by kernel_rfl))
  t3 := Tryz.underlying3
  a3 := Tryz.isAgg3
  z3 := Tryz.sizeOf3
  v3 := Tryz.zeroValue3
  t4 := Tryz.underlying4
  a4 := Tryz.isAgg4
  z4 := Tryz.sizeOf4
  v4 := Tryz.zeroValue4
  t9 := Tryz.underlying9
  a9 := Tryz.isAgg9
  z9 := Tryz.sizeOf9
  v9 := Tryz.zeroValue9 }
open Go.RowKit Go.Lib in
/-- internal/stringslite.HasPrefix (what strings.HasPrefix calls). (LAID: no walk: one application.) -/
theorem Tryz.stringslite_HasPrefix (s p : ByteArray) (w : World) :
    Calls Tryz.prog 181 #[.string s, .string p] w fun e w' => e = .returned (.bool (Lib.hasPrefix s.data.toList p.data.toList)) ∧ w' = w := Any.stringslite_HasPrefix Tryz.lays206 s p w
def Tryz.lays99_ren : Go.Shelf.Ren := ⟨fun | 99 => 149 | 206 => 181 | n => n, fun | 9 => 9 | 4 => 4 | 3 => 3 | n => n, fun | n => n⟩
theorem Tryz.lays99 : Go.Proofs.Lays.n99 Tryz.prog Tryz.lays99_ren := {
  mixed := by kernel_rfl
  f99 := Tryz.func149.trans (congrArg some (by kernel_rfl))
  f206 := Tryz.func181.trans (congrArg some (by kernel_rfl))
  t3 := Tryz.underlying3
  a3 := Tryz.isAgg3
  z3 := Tryz.sizeOf3
  v3 := Tryz.zeroValue3
  t4 := Tryz.underlying4
  a4 := Tryz.isAgg4
  z4 := Tryz.sizeOf4
  v4 := Tryz.zeroValue4
  t9 := Tryz.underlying9
  a9 := Tryz.isAgg9
  z9 := Tryz.sizeOf9
  v9 := Tryz.zeroValue9 }
open Go.RowKit Go.Lib in
/-- strings.HasPrefix: "HasPrefix reports whether the string s begins with prefix.": IT RETURNS 'Lib.hasPrefix s prefix'; the world is as it was. (LAID: no walk: one application.) -/
theorem Tryz.strings_HasPrefix (s p : ByteArray) (w : World) :
    Calls Tryz.prog 149 #[.string s, .string p] w fun e w' => e = .returned (.bool (Lib.hasPrefix s.data.toList p.data.toList)) ∧ w' = w := Any.strings_HasPrefix Tryz.lays99 s p w
def Tryz.lays208_ren : Go.Shelf.Ren := ⟨fun | 208 => 203 | 206 => 181 | n => n, fun | 9 => 9 | 4 => 4 | 3 => 3 | n => n, fun | n => n⟩
theorem Tryz.lays208 : Go.Proofs.Lays.n208 Tryz.prog Tryz.lays208_ren := {
  mixed := by kernel_rfl
  f206 := Tryz.func181.trans (congrArg some (by kernel_rfl))
  f208 := Tryz.func203.trans (congrArg some (by kernel_rfl))
  t3 := Tryz.underlying3
  a3 := Tryz.isAgg3
  z3 := Tryz.sizeOf3
  v3 := Tryz.zeroValue3
  t4 := Tryz.underlying4
  a4 := Tryz.isAgg4
  z4 := Tryz.sizeOf4
  v4 := Tryz.zeroValue4
  t9 := Tryz.underlying9
  a9 := Tryz.isAgg9
  z9 := Tryz.sizeOf9
  v9 := Tryz.zeroValue9 }
open Go.RowKit Go.Lib in
/-- internal/stringslite.TrimPrefix (what strings.TrimPrefix calls). (LAID: no walk: one application.) -/
theorem Tryz.stringslite_TrimPrefix (s p : ByteArray) (w : World) :
    Calls Tryz.prog 203 #[.string s, .string p] w fun e w' => e = .returned (.string ⟨(Lib.trimPrefix s.data.toList p.data.toList).toArray⟩) ∧ w' = w := Any.stringslite_TrimPrefix Tryz.lays208 s p w
def Tryz.lays101_ren : Go.Shelf.Ren := ⟨fun | 101 => 183 | 208 => 203 | 206 => 181 | n => n, fun | 9 => 9 | 4 => 4 | 3 => 3 | n => n, fun | n => n⟩
theorem Tryz.lays101 : Go.Proofs.Lays.n101 Tryz.prog Tryz.lays101_ren := {
  mixed := by kernel_rfl
  f101 := Tryz.func183.trans (congrArg some (by kernel_rfl))
  f206 := Tryz.func181.trans (congrArg some (by kernel_rfl))
  f208 := Tryz.func203.trans (congrArg some (by kernel_rfl))
  t3 := Tryz.underlying3
  a3 := Tryz.isAgg3
  z3 := Tryz.sizeOf3
  v3 := Tryz.zeroValue3
  t4 := Tryz.underlying4
  a4 := Tryz.isAgg4
  z4 := Tryz.sizeOf4
  v4 := Tryz.zeroValue4
  t9 := Tryz.underlying9
  a9 := Tryz.isAgg9
  z9 := Tryz.sizeOf9
  v9 := Tryz.zeroValue9 }
open Go.RowKit Go.Lib in
/-- strings.TrimPrefix: "TrimPrefix returns s without the provided leading prefix string. If s doesn't start with prefix, s is returned unchanged.": IT RETURNS 'Lib.trimPrefix s prefix'; the world is as it was. (LAID: no walk: one application.) -/
theorem Tryz.strings_TrimPrefix (s p : ByteArray) (w : World) :
    Calls Tryz.prog 183 #[.string s, .string p] w fun e w' => e = .returned (.string ⟨(Lib.trimPrefix s.data.toList p.data.toList).toArray⟩) ∧ w' = w := Any.strings_TrimPrefix Tryz.lays101 s p w
open Go.RowKit Go.Lib in
/-- strings.Count at whatever sep that is not empty: the two roads under one statement. (LAID: no walk: one application.) -/
theorem Tryz.strings_Count_any (s sep : ByteArray) (m : Int) (w : World) (hs : s.size < 4294967281) (hm : w.cell? ⟨0, 0, none⟩ = some (.int .i64 m)) (h1 : 1 ≤ sep.size) :
    Calls Tryz.prog 161 #[.string s, .string sep] w fun e w' => e = .returned (.int .i64 (Lib.countB s sep)) ∧ w' = w := Any.strings_Count_any Tryz.lays138 s sep m w hs hm h1
def Tryz.lays221_ren : Go.Shelf.Ren := ⟨fun | 221 => 133 | 268 => 160 | 138 => 161 | 143 => 162 | 195 => 188 | 197 => 189 | 218 => 190 | 219 => 173 | 260 => 206 | 217 => 193 | 225 => 197 | 224 => 198 | 267 => 199 | 266 => 207 | 314 => 208 | n => n, fun | 9 => 9 | 3 => 3 | 31 => 71 | 4 => 4 | 0 => 0 | 105 => 254 | 21 => 21 | 5 => 5 | 46 => 260 | 119 => 267 | 139 => 270 | 138 => 269 | 146 => 264 | 51 => 263 | n => n, fun | 1 => 0 | 3 => 1 | 4 => 2 | n => n⟩
theorem Tryz.lays221 : Go.Proofs.Lays.n221 Tryz.prog Tryz.lays221_ren := {
  mixed := by kernel_rfl
  f138 := Tryz.func161.trans (congrArg some (by kernel_rfl))
  f143 := Tryz.func162.trans (congrArg some (by kernel_rfl))
  f195 := Tryz.func188.trans (congrArg some (by kernel_rfl))
  f197 := Tryz.func189.trans (congrArg some (by kernel_rfl))
  f217 := Tryz.func193.trans (congrArg some (by kernel_rfl))
  f218 := Tryz.func190.trans (congrArg some (by kernel_rfl))
  f219 := Tryz.func173.trans (congrArg some (by kernel_rfl))
  f221 := Tryz.func133.trans (congrArg some (by kernel_rfl))
  f224 := Tryz.func198.trans (congrArg some (by kernel_rfl))
  f225 := Tryz.func197.trans (congrArg some (by kernel_rfl))
  f260 := Tryz.func206.trans (congrArg some (by kernel_rfl))
  f266 := Tryz.func207.trans (congrArg some (by kernel_rfl))
  f267 := Tryz.func199.trans (congrArg some (by kernel_rfl))
  f268 := Tryz.func160.trans (congrArg some (by kernel_rfl))
  f314 := Tryz.func208.trans (congrArg some (by kernel_rfl))
  t0 := Tryz.underlying0
  a0 := Tryz.isAgg0
  z0 := Tryz.sizeOf0
  v0 := Tryz.zeroValue0
  t3 := Tryz.underlying3
  a3 := Tryz.isAgg3
  z3 := Tryz.sizeOf3
  v3 := Tryz.zeroValue3
  t4 := Tryz.underlying4
  a4 := Tryz.isAgg4
  z4 := Tryz.sizeOf4
  v4 := Tryz.zeroValue4
  t5 := Tryz.underlying5
  a5 := Tryz.isAgg5
  z5 := Tryz.sizeOf5
  v5 := Tryz.zeroValue5
  t9 := Tryz.underlying9
  a9 := Tryz.isAgg9
  z9 := Tryz.sizeOf9
  v9 := Tryz.zeroValue9
  t21 := Tryz.underlying21
  a21 := Tryz.isAgg21
  z21 := Tryz.sizeOf21
  v21 := Tryz.zeroValue21
  t31 := Tryz.underlying71
  a31 := Tryz.isAgg71
  z31 := Tryz.sizeOf71
  v31 := Tryz.zeroValue71
  t46 := Tryz.underlying260
  a46 := Tryz.isAgg260
  z46 := Tryz.sizeOf260
  v46 := Tryz.zeroValue260
  t51 := Tryz.underlying263
  a51 := Tryz.isAgg263
  z51 := Tryz.sizeOf263
  v51 := Tryz.zeroValue263
  t105 := Tryz.underlying254
  a105 := Tryz.isAgg254
  z105 := Tryz.sizeOf254
  v105 := Tryz.zeroValue254
  t119 := Tryz.underlying267
  a119 := Tryz.isAgg267
  z119 := Tryz.sizeOf267
  t138 := Tryz.underlying269
  a138 := Tryz.isAgg269
  z138 := Tryz.sizeOf269
  v138 := Tryz.zeroValue269
  t139 := Tryz.underlying270
  a139 := Tryz.isAgg270
  z139 := Tryz.sizeOf270
  v139 := Tryz.zeroValue270
  t146 := Tryz.underlying264
  a146 := Tryz.isAgg264
  z146 := Tryz.sizeOf264
  v146 := Tryz.zeroValue264
  g1 := by kernel_rfl
  g3 := by kernel_rfl
  g4 := by kernel_rfl }
open Go.RowKit Go.Lib in
theorem Tryz.strings_genSplit (s sep : ByteArray) (sv : Nat) (n : Int) (N : Nat) (m : Int) (w : World) (hs : s.size < 4294967281) (hm : w.cell? ⟨0, 0, none⟩ = some (.int .i64 m)) (h1 : 1 ≤ sep.size) (hsv : sv ≤ sep.size) (hn0 : n ≠ 0) (hn63 : n ≤ 9223372036854775807) (hN : (N : Int) = min (if n < 0 then (Lib.countB s sep : Int) + 1 else n) ((s.size : Int) + 1)) :
    Calls Tryz.prog 133 #[.string s, .string sep, .int .i64 sv, .int .i64 n] w fun e w' =>
      e = .returned (.slice (some ⟨w.heap.size, 0, none⟩) (Lib.splitB sep sv (N - 1) s).length N) ∧ w' = w.alloc (.cells (Lib.cellsOf (Lib.splitB sep sv (N - 1) s) N) 9) := Any.strings_genSplit Tryz.lays221 (by kernel_rfl) s sep sv n N m w hs hm h1 hsv hn0 hn63 hN
def Tryz.lays146_ren : Go.Shelf.Ren := ⟨fun | 146 => 101 | 221 => 133 | 268 => 160 | 138 => 161 | 143 => 162 | 195 => 188 | 197 => 189 | 218 => 190 | 219 => 173 | 260 => 206 | 217 => 193 | 225 => 197 | 224 => 198 | 267 => 199 | 266 => 207 | 314 => 208 | n => n, fun | 9 => 9 | 31 => 71 | 3 => 3 | 4 => 4 | 0 => 0 | 105 => 254 | 21 => 21 | 5 => 5 | 46 => 260 | 119 => 267 | 139 => 270 | 138 => 269 | 146 => 264 | 51 => 263 | n => n, fun | 1 => 0 | 3 => 1 | 4 => 2 | n => n⟩
theorem Tryz.lays146 : Go.Proofs.Lays.n146 Tryz.prog Tryz.lays146_ren := {
  mixed := by kernel_rfl
  f138 := Tryz.func161.trans (congrArg some (by kernel_rfl))
  f143 := Tryz.func162.trans (congrArg some (by kernel_rfl))
  f146 := Tryz.func101.trans (congrArg some (by kernel_rfl))
  f195 := Tryz.func188.trans (congrArg some (by kernel_rfl))
  f197 := Tryz.func189.trans (congrArg some (by kernel_rfl))
  f217 := Tryz.func193.trans (congrArg some (by kernel_rfl))
  f218 := Tryz.func190.trans (congrArg some (by kernel_rfl))
  f219 := Tryz.func173.trans (congrArg some (by kernel_rfl))
  f221 := Tryz.func133.trans (congrArg some (by kernel_rfl))
  f224 := Tryz.func198.trans (congrArg some (by kernel_rfl))
  f225 := Tryz.func197.trans (congrArg some (by kernel_rfl))
  f260 := Tryz.func206.trans (congrArg some (by kernel_rfl))
  f266 := Tryz.func207.trans (congrArg some (by kernel_rfl))
  f267 := Tryz.func199.trans (congrArg some (by kernel_rfl))
  f268 := Tryz.func160.trans (congrArg some (by kernel_rfl))
  f314 := Tryz.func208.trans (congrArg some (by kernel_rfl))
  t0 := Tryz.underlying0
  a0 := Tryz.isAgg0
  z0 := Tryz.sizeOf0
  v0 := Tryz.zeroValue0
  t3 := Tryz.underlying3
  a3 := Tryz.isAgg3
  z3 := Tryz.sizeOf3
  v3 := Tryz.zeroValue3
  t4 := Tryz.underlying4
  a4 := Tryz.isAgg4
  z4 := Tryz.sizeOf4
  v4 := Tryz.zeroValue4
  t5 := Tryz.underlying5
  a5 := Tryz.isAgg5
  z5 := Tryz.sizeOf5
  v5 := Tryz.zeroValue5
  t9 := Tryz.underlying9
  a9 := Tryz.isAgg9
  z9 := Tryz.sizeOf9
  v9 := Tryz.zeroValue9
  t21 := Tryz.underlying21
  a21 := Tryz.isAgg21
  z21 := Tryz.sizeOf21
  v21 := Tryz.zeroValue21
  t31 := Tryz.underlying71
  a31 := Tryz.isAgg71
  z31 := Tryz.sizeOf71
  v31 := Tryz.zeroValue71
  t46 := Tryz.underlying260
  a46 := Tryz.isAgg260
  z46 := Tryz.sizeOf260
  v46 := Tryz.zeroValue260
  t51 := Tryz.underlying263
  a51 := Tryz.isAgg263
  z51 := Tryz.sizeOf263
  v51 := Tryz.zeroValue263
  t105 := Tryz.underlying254
  a105 := Tryz.isAgg254
  z105 := Tryz.sizeOf254
  v105 := Tryz.zeroValue254
  t119 := Tryz.underlying267
  a119 := Tryz.isAgg267
  z119 := Tryz.sizeOf267
  t138 := Tryz.underlying269
  a138 := Tryz.isAgg269
  z138 := Tryz.sizeOf269
  v138 := Tryz.zeroValue269
  t139 := Tryz.underlying270
  a139 := Tryz.isAgg270
  z139 := Tryz.sizeOf270
  v139 := Tryz.zeroValue270
  t146 := Tryz.underlying264
  a146 := Tryz.isAgg264
  z146 := Tryz.sizeOf264
  v146 := Tryz.zeroValue264
  g1 := by kernel_rfl
  g3 := by kernel_rfl
  g4 := by kernel_rfl }
open Go.RowKit Go.Lib in
/-- strings.Split. (LAID: no walk: one application.) -/
theorem Tryz.strings_Split (s sep : ByteArray) (m : Int) (w : World) (hs : s.size < 4294967281) (hm : w.cell? ⟨0, 0, none⟩ = some (.int .i64 m)) (h1 : 1 ≤ sep.size) :
    Calls Tryz.prog 101 #[.string s, .string sep] w fun e w' =>
      e = .returned (.slice (some ⟨w.heap.size, 0, none⟩) (Lib.countB s sep + 1) (Lib.countB s sep + 1)) ∧ w' = w.alloc (.cells ((Lib.splitB sep 0 (Lib.countB s sep) s).map Value.string).toArray 9) := Any.strings_Split Tryz.lays146 (by kernel_rfl) s sep m w hs hm h1
def Tryz.laysM146_ren : Go.Shelf.Ren := ⟨fun | 146 => 101 | 221 => 133 | 268 => 160 | 138 => 161 | 143 => 162 | 195 => 188 | 197 => 189 | 218 => 190 | 219 => 173 | 260 => 206 | 217 => 193 | 225 => 197 | 224 => 198 | 267 => 199 | 266 => 207 | 314 => 208 | n => n, fun | 9 => 9 | 31 => 71 | 3 => 3 | 4 => 4 | 0 => 0 | 105 => 254 | 21 => 21 | 5 => 5 | 46 => 260 | 119 => 267 | 139 => 270 | 138 => 269 | 146 => 264 | 51 => 263 | n => n, fun | 1 => 0 | 3 => 1 | 4 => 2 | n => n⟩
theorem Tryz.laysM146 : Go.Proofs.LaysM.n146 Tryz.prog Tryz.laysM146_ren := {
  mixed := by kernel_rfl
  f138 := Tryz.func161.trans (congrArg some (by kernel_rfl))
  f143 := Tryz.func162.trans (congrArg some (by kernel_rfl))
  f146 := Tryz.func101.trans (congrArg some (by kernel_rfl))
  f195 := Tryz.func188.trans (congrArg some (by kernel_rfl))
  f197 := Tryz.func189.trans (congrArg some (by kernel_rfl))
  f217 := Tryz.func193.trans (congrArg some (by kernel_rfl))
  f218 := Tryz.func190.trans (congrArg some (by kernel_rfl))
  f219 := Tryz.func173.trans (congrArg some (by kernel_rfl))
  f221 := Tryz.func133.trans (congrArg some (by kernel_rfl))
  f224 := Tryz.func198.trans (congrArg some (by kernel_rfl))
  f225 := Tryz.func197.trans (congrArg some (by kernel_rfl))
  f260 := Tryz.func206.trans (congrArg some (by kernel_rfl))
  f266 := Tryz.func207.trans (congrArg some (by kernel_rfl))
  f267 := Tryz.func199.trans (congrArg some (by kernel_rfl))
  f268 := Tryz.func160.trans (congrArg some (by kernel_rfl))
  f314 := Tryz.func208.trans (congrArg some (by kernel_rfl))
  t0 := Tryz.underlying0
  a0 := Tryz.isAgg0
  z0 := Tryz.sizeOf0
  v0 := Tryz.zeroValue0
  t3 := Tryz.underlying3
  a3 := Tryz.isAgg3
  z3 := Tryz.sizeOf3
  v3 := Tryz.zeroValue3
  t4 := Tryz.underlying4
  a4 := Tryz.isAgg4
  z4 := Tryz.sizeOf4
  v4 := Tryz.zeroValue4
  t5 := Tryz.underlying5
  a5 := Tryz.isAgg5
  z5 := Tryz.sizeOf5
  v5 := Tryz.zeroValue5
  t9 := Tryz.underlying9
  a9 := Tryz.isAgg9
  z9 := Tryz.sizeOf9
  v9 := Tryz.zeroValue9
  t21 := Tryz.underlying21
  a21 := Tryz.isAgg21
  z21 := Tryz.sizeOf21
  v21 := Tryz.zeroValue21
  t31 := Tryz.underlying71
  a31 := Tryz.isAgg71
  z31 := Tryz.sizeOf71
  v31 := Tryz.zeroValue71
  t46 := Tryz.underlying260
  a46 := Tryz.isAgg260
  z46 := Tryz.sizeOf260
  v46 := Tryz.zeroValue260
  t51 := Tryz.underlying263
  a51 := Tryz.isAgg263
  z51 := Tryz.sizeOf263
  v51 := Tryz.zeroValue263
  t105 := Tryz.underlying254
  a105 := Tryz.isAgg254
  z105 := Tryz.sizeOf254
  v105 := Tryz.zeroValue254
  t119 := Tryz.underlying267
  a119 := Tryz.isAgg267
  z119 := Tryz.sizeOf267
  t138 := Tryz.underlying269
  a138 := Tryz.isAgg269
  z138 := Tryz.sizeOf269
  v138 := Tryz.zeroValue269
  t139 := Tryz.underlying270
  a139 := Tryz.isAgg270
  z139 := Tryz.sizeOf270
  v139 := Tryz.zeroValue270
  t146 := Tryz.underlying264
  a146 := Tryz.isAgg264
  z146 := Tryz.sizeOf264
  v146 := Tryz.zeroValue264
  g1 := by kernel_rfl
  g3 := by kernel_rfl
  g4 := by kernel_rfl
  i0 := by kernel_rfl
  i3 := by kernel_rfl
  i4 := by kernel_rfl
  i5 := by kernel_rfl
  i9 := by kernel_rfl
  i21 := by kernel_rfl
  i31 := by kernel_rfl
  i46 := by kernel_rfl
  i51 := by kernel_rfl
  i105 := by kernel_rfl
  i138 := by kernel_rfl
  i139 := by kernel_rfl
  i146 := by kernel_rfl
  m1 := by kernel_rfl
  s1_3 := fun w h => Go.Proofs.cell_of_shapedOpen_int (zero := #[.int .i64 0]) (t := 3) h (of_decide_eq_true (by kernel_rfl)) (by kernel_rfl) rfl (by kernel_rfl) (by kernel_rfl) Tryz.underlying3
  m3 := by kernel_rfl
  m4 := by kernel_rfl }
open Go.RowKit Go.Lib in
/-- strings.Split, sep not empty. (LAID: no walk: one application.) -/
theorem Tryz.strings_Split_shaped (s sep : ByteArray) (w : World) (h : w.ShapedOpen Tryz.prog) (hs : s.size < 4294967281) (h1 : 1 ≤ sep.size) :
    Calls Tryz.prog 101 #[.string s, .string sep] w fun e w' =>
      e = .returned (.slice (some ⟨w.heap.size, 0, none⟩) (Lib.countB s sep + 1) (Lib.countB s sep + 1)) ∧ w' = w.alloc (.cells ((Lib.splitB sep 0 (Lib.countB s sep) s).map Value.string).toArray 9) := Any.strings_Split_shaped Tryz.laysM146 s sep w h hs h1
def Tryz.lays152_ren : Go.Shelf.Ren := ⟨fun | 152 => 209 | 137 => 166 | 119 => 211 | 224 => 198 | 225 => 197 | 217 => 193 | 266 => 207 | n => n, fun | 9 => 9 | 21 => 21 | 3 => 3 | 4 => 4 | 5 => 5 | 0 => 0 | 46 => 260 | n => n, fun | n => n⟩
theorem Tryz.lays152 : Go.Proofs.Lays.n152 Tryz.prog Tryz.lays152_ren := {
  mixed := by kernel_rfl
  f119 := Tryz.func211.trans (congrArg some (by kernel_rfl))
  f137 := Tryz.func166.trans (congrArg some (by kernel_rfl))
  f152 := Tryz.func209.trans (congrArg some (by kernel_rfl))
  f217 := Tryz.func193.trans (congrArg some (by kernel_rfl))
  f224 := Tryz.func198.trans (congrArg some (by kernel_rfl))
  f225 := Tryz.func197.trans (congrArg some (by kernel_rfl))
  f266 := Tryz.func207.trans (congrArg some (by kernel_rfl))
  t0 := Tryz.underlying0
  a0 := Tryz.isAgg0
  z0 := Tryz.sizeOf0
  v0 := Tryz.zeroValue0
  t3 := Tryz.underlying3
  a3 := Tryz.isAgg3
  z3 := Tryz.sizeOf3
  v3 := Tryz.zeroValue3
  t4 := Tryz.underlying4
  a4 := Tryz.isAgg4
  z4 := Tryz.sizeOf4
  v4 := Tryz.zeroValue4
  t5 := Tryz.underlying5
  a5 := Tryz.isAgg5
  z5 := Tryz.sizeOf5
  v5 := Tryz.zeroValue5
  t9 := Tryz.underlying9
  a9 := Tryz.isAgg9
  z9 := Tryz.sizeOf9
  v9 := Tryz.zeroValue9
  t21 := Tryz.underlying21
  a21 := Tryz.isAgg21
  z21 := Tryz.sizeOf21
  v21 := Tryz.zeroValue21
  t46 := Tryz.underlying260
  a46 := Tryz.isAgg260
  z46 := Tryz.sizeOf260
  v46 := Tryz.zeroValue260 }
open Go.RowKit Go.Lib in
theorem Tryz.strings_IndexRune_ascii (s : ByteArray) (r : Int) (w : World) (h0 : 0 ≤ r) (h1 : r < 128) :
    Calls Tryz.prog 209 #[.string s, .int .i32 r] w fun e w' => e = .returned (.int .i64 (Lib.indexByte s.data.toList r.toNat.toUInt8)) ∧ w' = w := Any.strings_IndexRune_ascii Tryz.lays152 s r w h0 h1
def Tryz.lays151_ren : Go.Shelf.Ren := ⟨fun | 151 => 201 | 152 => 209 | 137 => 166 | 119 => 211 | 224 => 198 | 225 => 197 | 217 => 193 | 266 => 207 | n => n, fun | 9 => 9 | 21 => 21 | 4 => 4 | 3 => 3 | 5 => 5 | 0 => 0 | 46 => 260 | n => n, fun | n => n⟩
theorem Tryz.lays151 : Go.Proofs.Lays.n151 Tryz.prog Tryz.lays151_ren := {
  mixed := by kernel_rfl
  f119 := Tryz.func211.trans (congrArg some (by kernel_rfl))
  f137 := Tryz.func166.trans (congrArg some (by kernel_rfl))
  f151 := Tryz.func201.trans (congrArg some (by kernel_rfl))
  f152 := Tryz.func209.trans (congrArg some (by kernel_rfl))
  f217 := Tryz.func193.trans (congrArg some (by kernel_rfl))
  f224 := Tryz.func198.trans (congrArg some (by kernel_rfl))
  f225 := Tryz.func197.trans (congrArg some (by kernel_rfl))
  f266 := Tryz.func207.trans (congrArg some (by kernel_rfl))
  t0 := Tryz.underlying0
  a0 := Tryz.isAgg0
  z0 := Tryz.sizeOf0
  v0 := Tryz.zeroValue0
  t3 := Tryz.underlying3
  a3 := Tryz.isAgg3
  z3 := Tryz.sizeOf3
  v3 := Tryz.zeroValue3
  t4 := Tryz.underlying4
  a4 := Tryz.isAgg4
  z4 := Tryz.sizeOf4
  v4 := Tryz.zeroValue4
  t5 := Tryz.underlying5
  a5 := Tryz.isAgg5
  z5 := Tryz.sizeOf5
  v5 := Tryz.zeroValue5
  t9 := Tryz.underlying9
  a9 := Tryz.isAgg9
  z9 := Tryz.sizeOf9
  v9 := Tryz.zeroValue9
  t21 := Tryz.underlying21
  a21 := Tryz.isAgg21
  z21 := Tryz.sizeOf21
  v21 := Tryz.zeroValue21
  t46 := Tryz.underlying260
  a46 := Tryz.isAgg260
  z46 := Tryz.sizeOf260
  v46 := Tryz.zeroValue260 }
open Go.RowKit Go.Lib in
theorem Tryz.strings_ContainsRune_ascii (s : ByteArray) (r : Int) (w : World) (h0 : 0 ≤ r) (h1 : r < 128) :
    Calls Tryz.prog 201 #[.string s, .int .i32 r] w fun e w' => e = .returned (.bool (decide (0 ≤ Lib.indexByte s.data.toList r.toNat.toUInt8))) ∧ w' = w := Any.strings_ContainsRune_ascii Tryz.lays151 s r w h0 h1
def Tryz.lays227_ren : Go.Shelf.Ren := ⟨fun | 227 => 176 | n => n, fun | 9 => 9 | 116 => 245 | 4 => 4 | 0 => 0 | 3 => 3 | 5 => 5 | n => n, fun | n => n⟩
theorem Tryz.lays227 : Go.Proofs.Lays.n227 Tryz.prog Tryz.lays227_ren := {
  mixed := by kernel_rfl
  f227 := Tryz.func176.trans (congrArg some (by kernel_rfl))
  t0 := Tryz.underlying0
  a0 := Tryz.isAgg0
  z0 := Tryz.sizeOf0
  v0 := Tryz.zeroValue0
  t3 := Tryz.underlying3
  a3 := Tryz.isAgg3
  z3 := Tryz.sizeOf3
  v3 := Tryz.zeroValue3
  t4 := Tryz.underlying4
  a4 := Tryz.isAgg4
  z4 := Tryz.sizeOf4
  v4 := Tryz.zeroValue4
  t5 := Tryz.underlying5
  a5 := Tryz.isAgg5
  z5 := Tryz.sizeOf5
  v5 := Tryz.zeroValue5
  t9 := Tryz.underlying9
  a9 := Tryz.isAgg9
  z9 := Tryz.sizeOf9
  v9 := Tryz.zeroValue9
  t116 := Tryz.underlying245
  a116 := Tryz.isAgg245
  z116 := Tryz.sizeOf245 }
open Go.RowKit Go.Lib in
theorem Tryz.strings_makeASCIISet (hv116 : ∀ w, (zeroValue 245).run Tryz.prog w = .ok (.agg (Array.replicate 256 (.bool false))) w) (chars : ByteArray) (w : World) (hs : chars.size < 4294967281) (hascii : ∀ (j : Nat) b, chars.data.toList[j]? = some b → b.toNat < 128) :
    Calls Tryz.prog 176 #[.string chars] w fun e w' => e = .returned (.tuple #[.agg (Lib.setCells chars.data.toList), .bool true]) ∧ w' = w.alloc (.cells (Lib.setCells chars.data.toList) 245) := Any.strings_makeASCIISet Tryz.lays227 hv116 (by kernel_rfl) chars w hs hascii
def Tryz.lays228_ren : Go.Shelf.Ren := ⟨fun | 228 => 200 | n => n, fun | 124 => 249 | 5 => 5 | 4 => 4 | 0 => 0 | 116 => 245 | n => n, fun | n => n⟩
theorem Tryz.lays228 : Go.Proofs.Lays.n228 Tryz.prog Tryz.lays228_ren := {
  mixed := by kernel_rfl
  f228 := Tryz.func200.trans (congrArg some (by kernel_rfl))
  t0 := Tryz.underlying0
  a0 := Tryz.isAgg0
  z0 := Tryz.sizeOf0
  v0 := Tryz.zeroValue0
  t4 := Tryz.underlying4
  a4 := Tryz.isAgg4
  z4 := Tryz.sizeOf4
  v4 := Tryz.zeroValue4
  t5 := Tryz.underlying5
  a5 := Tryz.isAgg5
  z5 := Tryz.sizeOf5
  v5 := Tryz.zeroValue5
  t116 := Tryz.underlying245
  a116 := Tryz.isAgg245
  z116 := Tryz.sizeOf245
  t124 := Tryz.underlying249
  a124 := Tryz.isAgg249
  z124 := Tryz.sizeOf249
  v124 := Tryz.zeroValue249 }
open Go.RowKit Go.Lib in
/-- '(as *asciiSet) contains(c)': 'as[c]': the set lies at block b, whole. (LAID: no walk: one application.) -/
theorem Tryz.asciiSet_contains (b : Nat) (x : UInt8) (v : Bool) (w : World) (hc : w.cell? ⟨b, x.toNat, none⟩ = some (.bool v)) :
    Calls Tryz.prog 200 #[.pointer (some ⟨b, 0, none⟩), .int .u8 x.toNat] w fun e w' => e = .returned (.bool v) ∧ w' = w := Any.asciiSet_contains Tryz.lays228 b x v w hc
def Tryz.lays260_ren : Go.Shelf.Ren := ⟨fun | 260 => 206 | n => n, fun | 9 => 9 | 21 => 21 | 3 => 3 | 4 => 4 | 5 => 5 | 119 => 267 | 0 => 0 | 46 => 260 | 139 => 270 | 138 => 269 | n => n, fun | 3 => 1 | 4 => 2 | n => n⟩
theorem Tryz.lays260 : Go.Proofs.Lays.n260 Tryz.prog Tryz.lays260_ren := {
  mixed := by kernel_rfl
  f260 := Tryz.func206.trans (congrArg some (by kernel_rfl))
  t0 := Tryz.underlying0
  a0 := Tryz.isAgg0
  z0 := Tryz.sizeOf0
  v0 := Tryz.zeroValue0
  t3 := Tryz.underlying3
  a3 := Tryz.isAgg3
  z3 := Tryz.sizeOf3
  v3 := Tryz.zeroValue3
  t4 := Tryz.underlying4
  a4 := Tryz.isAgg4
  z4 := Tryz.sizeOf4
  v4 := Tryz.zeroValue4
  t5 := Tryz.underlying5
  a5 := Tryz.isAgg5
  z5 := Tryz.sizeOf5
  v5 := Tryz.zeroValue5
  t9 := Tryz.underlying9
  a9 := Tryz.isAgg9
  z9 := Tryz.sizeOf9
  v9 := Tryz.zeroValue9
  t21 := Tryz.underlying21
  a21 := Tryz.isAgg21
  z21 := Tryz.sizeOf21
  v21 := Tryz.zeroValue21
  t46 := Tryz.underlying260
  a46 := Tryz.isAgg260
  z46 := Tryz.sizeOf260
  v46 := Tryz.zeroValue260
  t119 := Tryz.underlying267
  a119 := Tryz.isAgg267
  z119 := Tryz.sizeOf267
  t138 := Tryz.underlying269
  a138 := Tryz.isAgg269
  z138 := Tryz.sizeOf269
  v138 := Tryz.zeroValue269
  t139 := Tryz.underlying270
  a139 := Tryz.isAgg270
  z139 := Tryz.sizeOf270
  v139 := Tryz.zeroValue270
  g3 := by kernel_rfl
  g4 := by kernel_rfl }
open Go.RowKit Go.Lib in
theorem Tryz.utf8_decodeRuneInStringSlow (s : ByteArray) (w : World) (hT : Lib.Utf8Tabs 1 2 w) :
    Calls Tryz.prog 206 #[.string s] w fun e w' => e = .returned (.tuple #[.int .i32 (Lib.decodeGo s).1, .int .i64 (Lib.decodeGo s).2]) ∧ Below w.heap.size w w' := Any.utf8_decodeRuneInStringSlow Tryz.lays260 s w hT
def Tryz.lays197_ren : Go.Shelf.Ren := ⟨fun | 197 => 189 | 260 => 206 | n => n, fun | 9 => 9 | 21 => 21 | 3 => 3 | 4 => 4 | 5 => 5 | 105 => 254 | 119 => 267 | 0 => 0 | 46 => 260 | 139 => 270 | 138 => 269 | n => n, fun | 3 => 1 | 4 => 2 | n => n⟩
theorem Tryz.lays197 : Go.Proofs.Lays.n197 Tryz.prog Tryz.lays197_ren := {
  mixed := by kernel_rfl
  f197 := Tryz.func189.trans (congrArg some (by kernel_rfl))
  f260 := Tryz.func206.trans (congrArg some (by kernel_rfl))
  t0 := Tryz.underlying0
  a0 := Tryz.isAgg0
  z0 := Tryz.sizeOf0
  v0 := Tryz.zeroValue0
  t3 := Tryz.underlying3
  a3 := Tryz.isAgg3
  z3 := Tryz.sizeOf3
  v3 := Tryz.zeroValue3
  t4 := Tryz.underlying4
  a4 := Tryz.isAgg4
  z4 := Tryz.sizeOf4
  v4 := Tryz.zeroValue4
  t5 := Tryz.underlying5
  a5 := Tryz.isAgg5
  z5 := Tryz.sizeOf5
  v5 := Tryz.zeroValue5
  t9 := Tryz.underlying9
  a9 := Tryz.isAgg9
  z9 := Tryz.sizeOf9
  v9 := Tryz.zeroValue9
  t21 := Tryz.underlying21
  a21 := Tryz.isAgg21
  z21 := Tryz.sizeOf21
  v21 := Tryz.zeroValue21
  t46 := Tryz.underlying260
  a46 := Tryz.isAgg260
  z46 := Tryz.sizeOf260
  v46 := Tryz.zeroValue260
  t105 := Tryz.underlying254
  a105 := Tryz.isAgg254
  z105 := Tryz.sizeOf254
  v105 := Tryz.zeroValue254
  t119 := Tryz.underlying267
  a119 := Tryz.isAgg267
  z119 := Tryz.sizeOf267
  t138 := Tryz.underlying269
  a138 := Tryz.isAgg269
  z138 := Tryz.sizeOf269
  v138 := Tryz.zeroValue269
  t139 := Tryz.underlying270
  a139 := Tryz.isAgg270
  z139 := Tryz.sizeOf270
  v139 := Tryz.zeroValue270
  g3 := by kernel_rfl
  g4 := by kernel_rfl }
open Go.RowKit Go.Lib in
/-- **unicode/utf8.DecodeRuneInString AT EVERY STRING.** (LAID: no walk: one application.) -/
theorem Tryz.utf8_DecodeRuneInString (s : ByteArray) (w : World) (hT : Lib.Utf8Tabs 1 2 w) :
    Calls Tryz.prog 189 #[.string s] w fun e w' => e = .returned (.tuple #[.int .i32 (Lib.decodeGo s).1, .int .i64 (Lib.decodeGo s).2]) ∧ Below w.heap.size w w' := Any.utf8_DecodeRuneInString Tryz.lays197 s w hT
end Go.Proofs
namespace Go.Proofs.YtklhlkhlndhepaaGreatDoor
open Go.RowKit
namespace Ab

theorem acall2 {P : Program} {f : FuncId} {a b u : Value} {r : A} (hfn : FnOk P f) (hr : ∀ ok w, r.rep ok noNames w u) (h : ∀ w, GlobCell w → Calls P f #[a, b] w fun e w' => e = .returned u ∧ Below w.heap.size w w') : ACall P f [.one (.lit a), .one (.lit b)] r := by
  refine ⟨hfn, fun ok w vs hg hvs => ?_⟩
  obtain ⟨v, t, rfl, hv, v2, t2, rfl, hv2, ht⟩ := hvs
  rw [show t2 = [] from ht, show v = a from hv, show v2 = b from hv2]
  refine (h w hg.2.2).mono ?_
  rintro e w' ⟨rfl, hb⟩
  exact ⟨_, rfl, hb, hr _ _⟩
theorem same_below {e : Ending} {u : Value} {w w' : World} (h : e = .returned u ∧ w' = w) : e = .returned u ∧ Below w.heap.size w w' := ⟨h.1, by rw [h.2]; exact Below.refl _ _⟩
theorem hasPrefix_c (s p : ByteArray) : ACall Tryz.prog 149 [is s, is p] (ib (Lib.hasPrefix s.data.toList p.data.toList)) :=
  acall2 ⟨_, Tryz.func149, rfl, rfl⟩ (fun _ _ => rfl) fun w _ => (Tryz.strings_HasPrefix s p w).mono fun _ _ h => same_below h
theorem contains_c (s p : ByteArray) (hs : s.size < 4294967281) : ACall Tryz.prog 147 [is s, is p] (ib (Lib.contains s.data.toList p.data.toList)) :=
  acall2 ⟨_, Tryz.func147, rfl, rfl⟩ (fun _ _ => rfl) fun w ⟨m, hm⟩ => (Tryz.strings_Contains s p m w hs hm).mono fun _ _ h => same_below h
theorem indexByte_c (s : ByteArray) (c : Int) : ACall Tryz.prog 166 [is s, ii .u8 c] (ii .i64 (Lib.indexByte s.data.toList c.toNat.toUInt8)) :=
  acall2 ⟨_, Tryz.func166, rfl, rfl⟩ (fun _ _ => rfl) fun w _ => (Tryz.strings_IndexByte s c w).mono fun _ _ h => same_below h
theorem cutPrefix_c (s p : ByteArray) : ACall Tryz.prog 163 [is s, is p] (.tup [(false, [.lit (.string ⟨(Lib.trimPrefix s.data.toList p.data.toList).toArray⟩)]), (false, [.lit (.bool (Lib.hasPrefix s.data.toList p.data.toList))])]) :=
  acall2 ⟨_, Tryz.func163, rfl, rfl⟩ (fun _ _ => ⟨_, rfl, _, _, rfl, ⟨_, _, rfl, rfl, rfl⟩, _, _, rfl, ⟨_, _, rfl, rfl, rfl⟩, rfl⟩) fun w _ => (Tryz.strings_CutPrefix s p w).mono fun _ _ h => same_below h
theorem trimPrefix_c (s p : ByteArray) : ACall Tryz.prog 183 [is s, is p] (is ⟨(Lib.trimPrefix s.data.toList p.data.toList).toArray⟩) :=
  acall2 ⟨_, Tryz.func183, rfl, rfl⟩ (fun _ _ => rfl) fun w _ => (Tryz.strings_TrimPrefix s p w).mono fun _ _ h => same_below h
theorem cut_c (s p : ByteArray) (hs : s.size < 4294967281) : ACall Tryz.prog 116 [is s, is p] (.tup [(false, [.lit (.string ⟨(Lib.cut s.data.toList p.data.toList).1.toArray⟩)]), (false, [.lit (.string ⟨(Lib.cut s.data.toList p.data.toList).2.1.toArray⟩)]), (false, [.lit (.bool (Lib.cut s.data.toList p.data.toList).2.2)])]) :=
  acall2 ⟨_, Tryz.func116, rfl, rfl⟩ (fun _ _ => ⟨_, rfl, _, _, rfl, ⟨_, _, rfl, rfl, rfl⟩, _, _, rfl, ⟨_, _, rfl, rfl, rfl⟩, _, _, rfl, ⟨_, _, rfl, rfl, rfl⟩, rfl⟩) fun w ⟨m, hm⟩ => (Tryz.strings_Cut s p m w hs hm).mono fun _ _ h => ⟨h.1, by obtain ⟨n, hn⟩ := h.2; rw [hn]; exact ⟨rfl, rfl, rfl, Nat.le_refl _, fun _ _ => rfl⟩⟩
theorem split_c (s p : ByteArray) (hs : s.size < 4294967281) (h1 : 1 ≤ p.size) (hc : Lib.countB s p + 1 ≤ maxLen) : ACall Tryz.prog 101 [is s, is p] (.one (.sl .str (Lib.splitB p 0 (Lib.countB s p) s))) := by
  refine ⟨⟨_, Tryz.func101, rfl, rfl⟩, fun ok w vs hg hvs => ?_⟩
  obtain ⟨v, t, rfl, hv, v2, t2, rfl, hv2, ht⟩ := hvs
  rw [show t2 = [] from ht, show v = .string s from hv, show v2 = .string p from hv2]
  obtain ⟨_, _, m, hm⟩ := hg
  refine (Tryz.strings_Split s p m w hs hm h1).mono ?_
  rintro e w' ⟨rfl, rfl⟩
  refine ⟨_, rfl, below_alloc w _, ?_⟩
  have hl := Lib.splitB_all p h1 0 (Lib.countB s p) s rfl
  rw [← hl] at hc ⊢
  refine ⟨_, _, rfl, Nat.le_refl _, hc, fun i hi => ⟨w.heap.size, 0, [.string (Lib.splitB p 0 (Lib.countB s p) s)[i]], rfl, .inr (Nat.le_refl _), by simp, ⟨rfl, fun j hj => ?_⟩, rfl⟩⟩
  obtain rfl : j = 0 := by simp only [Rd.n] at hj; omega
  have hh : (w.alloc (Obj.cells (List.map Value.string (Lib.splitB p 0 (Lib.countB s p) s)).toArray 9)).heap[w.heap.size]? = _ := heap_new w _
  simp only [World.cell?, hh]
  simp [Rd.n, hi]
theorem join_c (xs : List ByteArray) (sep : ByteArray) (hN : xs.length ≤ 140737488355328) (hlen : (Lib.join (xs.map (·.data.toList)) sep.data.toList).length ≤ 140737488355328) : ACall Tryz.prog 122 [.one (.sl .str xs), is sep] (is ⟨(Lib.join (xs.map (·.data.toList)) sep.data.toList).toArray⟩) := by
  refine ⟨⟨_, Tryz.func122, rfl, rfl⟩, fun ok w vs hg hvs => ?_⟩
  obtain ⟨v, t, rfl, ⟨a, cap, rfl, h1, h2, hc⟩, v2, t2, rfl, hv2, ht⟩ := hvs
  rw [show t2 = [] from ht, show v2 = .string sep from hv2]
  by_cases h0 : xs = []
  · subst h0
    refine (Tryz.strings_Join_none a cap sep w).mono ?_
    rintro e w' ⟨rfl, rfl⟩
    exact ⟨_, rfl, Below.refl _ _, rfl⟩
  · have hpos : 0 < xs.length := List.length_pos_iff.2 h0
    obtain ⟨b, off, _, rfl, _, hb, _⟩ := hc 0 hpos
    refine (Tryz.strings_Join b off cap xs sep w (fun j x hj => ?_) hb hN h1 hlen).mono ?_
    · obtain ⟨hjl, rfl⟩ := List.getElem?_eq_some_iff.1 hj
      obtain ⟨b', off', cs, e, _, _, hcell, hr⟩ := hc j hjl
      cases e
      have hr : cs = [.string xs[j]] := hr
      have := hcell.2 0 (by decide)
      rw [hr] at this
      simpa [Rd.n] using this
    · rintro e w' ⟨rfl, hb⟩
      exact ⟨_, rfl, hb, rfl⟩
end Ab
end Go.Proofs.YtklhlkhlndhepaaGreatDoor
namespace Go.Proofs.YtklhlkhlndhepaaGreatDoor
open Go.RowKit
namespace Ab
theorem trimS_c (s p : ByteArray) (hp : p.data.toList.all (fun b => decide (b.toNat < 128)) = true) (hps : p.size < 4294967281) (hs : s.size ≤ 9223372036854775807) : ACall Tryz.prog 148 [is s, is p] (is ⟨(Lib.trimS s.data.toList p.data.toList).toArray⟩) :=
  acall2 ⟨_, Tryz.func148, rfl, rfl⟩ (fun _ _ => rfl) fun w _ => (Any.strings_Trim_laid Tryz.lays160 (by kernel_rfl) s p w hs hps (ascii_of_all hp)).mono fun _ _ h => h
end Ab
end Go.Proofs.YtklhlkhlndhepaaGreatDoor
namespace Go.Proofs.YtklhlkhlndhepaaGreatDoor
open Go.RowKit
namespace Ab
set_option maxRecDepth 100000
abbrev Fld := ByteArray × ByteArray
abbrev rFld : Rd Fld := .st .str .str
theorem app_le {n b : Nat} (h : n ≤ 1000000000) (hb : b ≤ 1000) : n * b ≤ 140737488355328 := Nat.le_trans (Nat.mul_le_mul h hb) (by decide)
theorem map_next {α β : Type} (g : α → β) (d : α) {l : List α} {i : Nat} (h : i < l.length) (b : β) (hb : b = g (l.getD i d)) (c : List β) : c ++ (l.take i).map g ++ [b] = c ++ (l.take (i + 1)).map g := by
  rw [hb, List.append_assoc, ← take_snoc d h, List.map_append]; rfl
namespace Q
def FldsOk (l : List Fld) : Prop := l.length ≤ 1000 ∧ ∀ f ∈ l, f.1.size ≤ 1000000 ∧ f.2.size ≤ 1000000
def sumF (l : List Fld) : Nat := (l.map fun f => min f.1.size 10000 + min f.2.size 10000).sum
def muchB (l : List Fld) : Bool := decide (61 < l.length) || decide (6000 < sumF l)
theorem drop_cons {l : List UInt8} {i : Nat} (h : i < l.length) : l.drop i = l.getD i 0 :: l.drop (i + 1) := by
  rw [List.drop_eq_getElem_cons h, List.getD_eq_getElem?_getD, List.getElem?_eq_getElem h]; rfl
theorem size_list (s : ByteArray) : s.size = s.data.toList.length := by cases s; rfl
theorem u8_eq {a b : UInt8} (h : (a.toNat : Int) = (b.toNat : Int)) : a = b := UInt8.toNat_inj.1 (by omega)
abbrev ls (s : ByteArray) : List UInt8 := s.data.toList
def bytes (l : List UInt8) : ByteArray := ⟨l.toArray⟩
theorem bytes_list (l : List UInt8) : (bytes l).data.toList = l := by simp [bytes]
theorem bytes_ls (s : ByteArray) : bytes (ls s) = s := by cases s; rfl
def Clean (sep p : List UInt8) : Prop := (∀ r j, j < p.length → Lib.occAt (p ++ sep ++ r) sep j = false) ∧ ∀ j, j ≤ p.length → Lib.occAt p sep j = false
theorem join_two (p q : List UInt8) (ps : List (List UInt8)) (sep : List UInt8) : Lib.join (p :: q :: ps) sep = p ++ sep ++ Lib.join (q :: ps) sep := by
  rw [Lib.join_cons, Lib.join_cons]; simp [Lib.joinTail]
theorem ints_app (l m : List UInt8) : intsOf (bytes l) ++ intsOf (bytes m) = intsOf (bytes (l ++ m)) := by
  unfold intsOf; rw [bytes_list, bytes_list, bytes_list, List.map_append]
theorem ints_len (l : List UInt8) : (intsOf (bytes l)).length = l.length := by unfold intsOf; rw [bytes_list, List.length_map]
theorem extract_one {s : ByteArray} {i : Nat} (h : i < s.data.toList.length) : s.extract i (i + 1) = bytes [s.data.toList.getD i 0] := by
  apply ByteArray.ext
  apply Array.ext'
  rw [bytes_list, Lib.extract_data, Nat.add_sub_cancel_left, drop_cons h]
  rfl
theorem bytes_app (l m : List UInt8) : bytes (l ++ m) = bytes l ++ bytes m := by
  apply ByteArray.ext; simp [bytes]
theorem ints_add (l m : List UInt8) (t : ByteArray) (h : t = bytes m) : intsOf (bytes l) ++ intsOf t = intsOf (bytes (l ++ m)) := by rw [h, ints_app]
theorem bytes_size (l : List UInt8) : (bytes l).size = l.length := by rw [size_list, bytes_list]
theorem extract_ls (s : ByteArray) (a b : Nat) : (s.extract a b).data.toList = (s.data.toList.drop a).take (b - a) := Lib.extract_data s a b
theorem split_v (s p : ByteArray) (ws : List ByteArray) (hw : Lib.splitB p 0 (Lib.countB s p) s = ws) (hs : s.size ≤ 1000000) (h1 : 1 ≤ p.size) : ACall Tryz.prog 101 [is s, is p] (.one (.sl .str ws)) := by
  subst hw
  exact split_c s p (by omega) h1 (by have := Lib.countB_le p h1 _ s (Nat.le_refl _); unfold maxLen; omega)
theorem split_size (p : ByteArray) : ∀ (k : Nat) (s : ByteArray), ∀ x ∈ Lib.splitB p 0 k s, x.size ≤ s.size
  | 0, s, x, hx => by rw [List.mem_singleton.1 hx]; exact Nat.le_refl _
  | k + 1, s, x, hx => by
    unfold Lib.splitB at hx
    split at hx
    · rw [List.mem_singleton.1 hx]; exact Nat.le_refl _
    · rcases List.mem_cons.1 hx with rfl | hx
      · rw [ByteArray.size_extract]; omega
      · have := split_size p k _ x hx
        rw [ByteArray.size_extract] at this; omega
theorem split_len (p s : ByteArray) (h1 : 1 ≤ p.size) : (Lib.splitB p 0 (Lib.countB s p) s).length ≤ s.size + 1 := by
  rw [Lib.splitB_all p h1 0 _ s rfl]
  have := Lib.countB_le p h1 _ s (Nat.le_refl _); omega
theorem split_ls (p s : ByteArray) : (Lib.splitB p 0 (Lib.countB s p) s).map ls = Lib.split (ls s) (ls p) := Lib.splitB_data p 0 _ s
theorem map_take_succ {α β : Type} (g : α → β) (l : List α) (d : α) (i : Nat) (h : i < l.length) : (l.take (i + 1)).map g = (l.take i).map g ++ [g (l.getD i d)] := by
  rw [← take_snoc d h, List.map_append]; rfl
theorem ls_inj {s : ByteArray} {l : List UInt8} (h : ls s = l) : s = bytes l := by rw [← h, bytes_ls]
theorem occ_one (l : List UInt8) (c : UInt8) (i : Nat) : Lib.occAt l [c] i = true ↔ l[i]? = some c := by
  refine ⟨fun h => Lib.occAt_head rfl h, fun h => ?_⟩
  unfold Lib.occAt
  obtain ⟨hi, e⟩ := List.getElem?_eq_some_iff.1 h
  rw [List.drop_eq_getElem_cons hi, e]
  simp [List.isPrefixOf]
theorem contains_one (l : List UInt8) (c : UInt8) : Lib.contains l [c] = decide (c ∈ l) := by
  unfold Lib.contains
  refine decide_eq_decide.2 ⟨fun h => ?_, fun h => ?_⟩
  · rcases Lib.index_spec l [c] with ⟨e, _⟩ | ⟨i, _, _, h3, _⟩
    · omega
    · exact List.mem_of_getElem? ((occ_one l c i).1 h3)
  · obtain ⟨i, hi, e⟩ := List.getElem_of_mem h
    rcases Lib.index_spec l [c] with ⟨_, h2⟩ | ⟨i, h1, _⟩
    · have := h2 i (Nat.le_of_lt hi)
      rw [(occ_one l c i).2 (by rw [List.getElem?_eq_getElem hi, e])] at this
      cases this
    · omega
def blankC (c : UInt8) : Bool := decide (c = 32) || decide (c = 9)
def blankL (l : List UInt8) : Bool := decide (1 ≤ l.length) && blankC (l.getD 0 0)
def keyOk (l : List UInt8) : Bool := (((((decide (1 ≤ l.length) && decide (l.length ≤ 32)) && !blankC (l.getD 0 0)) && !decide (l.getD 0 0 = 35)) && !decide (58 ∈ l)) && !decide (10 ∈ l))
theorem emp {s : ByteArray} : s = ⟨#[]⟩ ↔ s.data.toList.length = 0 := by
  refine ⟨fun h => by rw [h]; rfl, fun h => ?_⟩
  have := List.eq_nil_of_length_eq_zero h
  rw [← bytes_ls s, show ls s = [] from this]; rfl
theorem hasPrefix_one (l : List UInt8) (c : UInt8) : Lib.hasPrefix l [c] = (decide (1 ≤ l.length) && decide (l.getD 0 0 = c)) := by
  unfold Lib.hasPrefix
  cases l with
  | nil => rfl
  | cons d l =>
    have : (c == d) = decide (d = c) := by rw [Bool.eq_iff_iff, beq_iff_eq, decide_eq_true_iff]; exact eq_comm
    simp [List.isPrefixOf, this]
theorem u8_iff (c d : UInt8) : ((c.toNat : Int) = d.toNat) ↔ c = d := ⟨u8_eq, fun h => by rw [h]⟩
theorem keyOk_prog (l : List UInt8) : keyOk l = (!(((decide (l.length = 0) || decide (32 < l.length)) || blankL l) || Lib.hasPrefix l [35]) && (!Lib.contains l [58] && !Lib.contains l [10])) := by
  rw [contains_one, contains_one, hasPrefix_one]
  unfold keyOk blankL
  by_cases h : 1 ≤ l.length
  · have h0 : ¬ l.length = 0 := by omega
    by_cases h2 : l.length ≤ 32
    · have h3 : ¬ 32 < l.length := by omega
      simp [h, h0, h2, h3, Bool.and_assoc]
    · have h3 : 32 < l.length := by omega
      simp [h2, h3]
  · have h0 : l.length = 0 := by omega
    simp [h0]
theorem blank_c (s : ByteArray) (hs : s.size ≤ 1000000000) : ACall Tryz.prog 150 [is s] (ib (blankL s.data.toList)) := by
  have hz := size_list s
  refine acall_of (rs := [2]) Tryz.func150 rfl rfl rfl teOk rfl ?_
  refine acode_seq ?_
  refine acode_region ?_
  refine acode_seq ?_
  refine acode_region ?_
  refine And.intro (fun h => trivial) ?_
  refine And.intro (fun h => ⟨⟨⟨h, trivial⟩, trivial⟩, by have h9 : ¬ s = ⟨#[]⟩ := (by simpa [gq] using h); rw [emp] at h9; omega⟩) ?_
  refine And.intro (rfl) ?_
  refine Exists.intro _ (And.intro (fun h => ⟨⟨⟨h, trivial⟩, trivial⟩, contains_c _ _ (by decide)⟩) ?_)
  refine And.intro (by exact fun h => h) ?_
  refine acode_ret ?_
  refine ib_eq ?_
  by_cases h : s.data.toList.length = 0
  · rw [decide_eq_true (emp.2 h), Bool.not_true, Bool.false_and]; unfold blankL; rw [h]; rfl
  · rw [decide_eq_false (fun e => h (emp.1 e)), show s.extract (Int.toNat 0) (Int.toNat 1) = bytes [s.data.toList.getD 0 0] from extract_one (by omega), bytes_list, contains_one]; unfold blankL blankC; rw [decide_eq_true (show 1 ≤ s.data.toList.length by omega)]; simp
theorem key_c (s : ByteArray) (hs : s.size ≤ 1000000000) : ACall Tryz.prog 151 [is s] (ib (keyOk s.data.toList)) := by
  have hz := size_list s
  refine acall_of (rs := [2]) Tryz.func151 rfl rfl rfl teOk rfl ?_
  refine acode_seq ?_
  refine acode_region ?_
  refine acode_seq ?_
  refine acode_seq ?_
  refine acode_region ?_
  refine And.intro (fun h => trivial) ?_
  refine And.intro (fun h => ⟨⟨h, trivial⟩, trivial⟩) ?_
  refine And.intro (fun h => ⟨⟨h, trivial⟩, trivial⟩) ?_
  refine And.intro (by first | (intro h; rw [h]; rfl) | (intro h; cases h)) ?_
  refine And.intro (fun h => trivial) ?_
  refine And.intro (rfl) ?_
  refine Exists.intro _ (And.intro (fun h => ⟨⟨⟨h, trivial⟩, trivial⟩, blank_c _ hs⟩) ?_)
  refine And.intro (by first | (intro h; rw [h]; rfl) | (intro h; cases h)) ?_
  refine And.intro (fun h => trivial) ?_
  refine And.intro (rfl) ?_
  refine Exists.intro _ (And.intro (fun h => ⟨⟨⟨h, trivial⟩, trivial⟩, hasPrefix_c _ _⟩) ?_)
  refine And.intro (by first | (intro h; rw [h]; rfl) | (intro h; cases h)) ?_
  refine acode_cond rfl (fun h17 => ?_) (fun h17 => ?_)
  · try simp only [decide_eq_true_eq, Bool.or_eq_true] at h17
    try simp only [Int.toNat_natCast, dflt_sl, dflt_st, dflt_str, dflt_int, dflt_bool] at h17
    refine acode_seq ?_
    refine acode_region ?_
    refine acode_ret ?_
    refine ib_eq ?_
    rw [keyOk_prog]
    rw [emp] at h17
    rcases h17 with ((h | h) | h) | h
    · simp [h]
    · rw [decide_eq_true (show 32 < s.data.toList.length by omega)]; simp
    · simp [h]
    · simp [h]
  · try simp only [decide_eq_false_iff_not, Bool.or_eq_false_iff, Int.not_lt] at h17
    try simp only [Int.toNat_natCast, dflt_sl, dflt_st, dflt_str, dflt_int, dflt_bool] at h17
    refine acode_skip ?_
    refine acode_seq ?_
    refine acode_region ?_
    refine Or.inl ?_
    refine And.intro (rfl) ?_
    refine Exists.intro _ (And.intro (contains_c _ _ (by omega)) ?_)
    refine And.intro (fun h => trivial) ?_
    refine And.intro (rfl) ?_
    refine Exists.intro _ (And.intro (fun h => ⟨⟨⟨h, trivial⟩, trivial⟩, contains_c _ _ (by omega)⟩) ?_)
    refine And.intro (fun h => ⟨⟨h, trivial⟩, trivial⟩) ?_
    refine And.intro (by exact fun h => h) ?_
    refine acode_ret ?_
    refine ib_eq ?_
    rw [keyOk_prog]
    rw [emp] at h17
    obtain ⟨⟨⟨h1, h2⟩, h3⟩, h4⟩ := h17
    simp only [h3, h4, decide_eq_false h1, decide_eq_false (show ¬ 32 < s.data.toList.length by omega)]
    rfl
theorem refBlank_c (c : UInt8) (n : Int) (hn : n = c.toNat) : ACall Tryz.prog 137 [ii .u8 n] (ib (blankC c)) := by
  subst hn
  refine acall_of (rs := [2]) Tryz.func137 rfl rfl rfl teOk rfl ?_
  refine acode_seq ?_
  refine acode_region ?_
  refine acode_seq ?_
  refine acode_region ?_
  refine And.intro (fun h => trivial) ?_
  refine And.intro (fun h => ⟨⟨h, trivial⟩, trivial⟩) ?_
  refine And.intro (by first | (intro h; rw [h]; rfl) | (intro h; cases h)) ?_
  refine acode_ret ?_
  refine ib_eq ?_
  unfold blankC
  rw [decide_eq_decide.2 (show (c.toNat : Int) = 32 ↔ c = 32 from u8_iff c 32), decide_eq_decide.2 (show (c.toNat : Int) = 9 ↔ c = 9 from u8_iff c 9)]
theorem notin_snoc {l : List UInt8} {c : UInt8} {i : Nat} (hi : i < l.length) (h : c ∉ l.take i) (hc : l.getD i 0 ≠ c) : c ∉ l.take (i + 1) := by
  rw [← take_snoc 0 hi, List.mem_append, List.mem_singleton]
  exact fun e => e.elim h fun e => hc e.symm
theorem refKey_c (s : ByteArray) (hs : s.size ≤ 1000000000) : ACall Tryz.prog 170 [is s] (ib (keyOk s.data.toList)) := by
  have hz := size_list s
  refine acall_of (rs := [2]) Tryz.func170 rfl rfl rfl teOk rfl ?_
  refine acode_seq ?_
  refine acode_region ?_
  refine acode_seq ?_
  refine acode_seq ?_
  refine acode_region ?_
  refine And.intro (fun h => trivial) ?_
  refine And.intro (fun h => ⟨⟨h, trivial⟩, trivial⟩) ?_
  refine And.intro (fun h => ⟨⟨h, trivial⟩, trivial⟩) ?_
  refine And.intro (by first | (intro h; rw [h]; rfl) | (intro h; cases h)) ?_
  refine And.intro (fun h => trivial) ?_
  refine And.intro (fun h => ⟨⟨⟨h, trivial⟩, trivial⟩, by first | omega | decide | (simp only [Int.toNat_natCast, dflt_sl, dflt_st, dflt_str, dflt_int, dflt_bool]; omega) | (have h9 := of_decide_eq_true h; omega) | (simp [gq] at h; omega)⟩) ?_
  refine And.intro (rfl) ?_
  refine Exists.intro _ (And.intro (fun h => ⟨⟨⟨h, trivial⟩, trivial⟩, refBlank_c (s.data.toList.getD 0 0) _ rfl⟩) ?_)
  refine And.intro (by first | (intro h; rw [h]; rfl) | (intro h; cases h)) ?_
  refine And.intro (fun h => trivial) ?_
  refine And.intro (fun h => ⟨⟨⟨h, trivial⟩, trivial⟩, by first | omega | decide | (simp only [Int.toNat_natCast, dflt_sl, dflt_st, dflt_str, dflt_int, dflt_bool]; omega) | (have h9 := of_decide_eq_true h; omega) | (simp [gq] at h; omega)⟩) ?_
  refine And.intro (fun h => ⟨⟨h, trivial⟩, trivial⟩) ?_
  refine And.intro (by first | (intro h; rw [h]; rfl) | (intro h; cases h)) ?_
  refine acode_cond rfl (fun h21 => ?_) (fun h21 => ?_)
  · try simp only [decide_eq_true_eq, Bool.or_eq_true] at h21
    try simp only [Int.toNat_natCast, dflt_sl, dflt_st, dflt_str, dflt_int, dflt_bool] at h21
    refine acode_seq ?_
    refine acode_region ?_
    refine acode_ret ?_
    refine ib_eq ?_
    unfold keyOk
    rcases h21 with ((h | h) | h) | h
    · rw [decide_eq_false (show ¬ 1 ≤ s.data.toList.length by omega)]; simp
    · rw [decide_eq_false (show ¬ s.data.toList.length ≤ 32 by omega)]; simp
    · rw [h]; simp
    · rw [show s.data.toList.getD 0 0 = 35 from u8_eq h]; simp
  · try simp only [decide_eq_false_iff_not, Bool.or_eq_false_iff, Int.not_lt] at h21
    try simp only [Int.toNat_natCast, dflt_sl, dflt_st, dflt_str, dflt_int, dflt_bool] at h21
    refine acode_skip ?_
    refine acode_seq ?_
    refine acode_seq ?_
    refine acode_region ?_
    refine acode_block ?_
    refine acode_loopP (fun (i : Nat) => i ≤ s.size ∧ 58 ∉ s.data.toList.take i ∧ 10 ∉ s.data.toList.take i) (fun (i : Nat) => [(0, is s), (3, ii .i64 i)]) (fun (i : Nat) => []) 0 (fun (i : Nat) => s.size - i) 0 (⟨Nat.zero_le _, by simp, by simp⟩) (le_of ⟨rfl, rfl⟩ trivial rfl) ?_
    intro i hI0
    obtain ⟨hi, h1, h2⟩ := hI0
    refine acode_seq ?_
    refine acode_seq ?_
    refine acode_region ?_
    refine acode_cond rfl (fun h25 => ?_) (fun h25 => ?_)
    · try simp only [decide_eq_true_eq] at h25
      try simp only [Int.toNat_natCast, dflt_sl, dflt_st, dflt_str, dflt_int, dflt_bool] at h25
      have hlt : i < s.data.toList.length := by omega
      refine acode_skip ?_
      refine acode_seq ?_
      refine acode_block ?_
      refine acode_seq ?_
      refine acode_region ?_
      refine And.intro (by first | omega | assumption | decide | (simp only [Int.toNat_natCast, dflt_sl, dflt_st, dflt_str, dflt_int, dflt_bool]; omega) | (simp <;> omega)) ?_
      refine And.intro (fun h => trivial) ?_
      refine And.intro (fun h => trivial) ?_
      refine And.intro (fun h => ⟨⟨⟨h, trivial⟩, ⟨h, trivial⟩, trivial⟩, by first | omega | decide | (simp only [Int.toNat_natCast, dflt_sl, dflt_st, dflt_str, dflt_int, dflt_bool]; omega) | (have h9 := of_decide_eq_true h; omega) | (simp [gq] at h; omega)⟩) ?_
      refine And.intro (fun h => ⟨⟨h, trivial⟩, trivial⟩) ?_
      refine And.intro (by first | (intro h; rw [h]; rfl) | (intro h; cases h)) ?_
      refine acode_cond rfl (fun h37 => ?_) (fun h37 => ?_)
      · try simp only [decide_eq_true_eq, Bool.or_eq_true] at h37
        try simp only [Int.toNat_natCast] at h37
        refine acode_seq ?_
        refine acode_region ?_
        refine acode_ret ?_
        refine ib_eq ?_
        unfold keyOk
        rcases h37 with h | h
        · rw [decide_eq_true (show 58 ∈ s.data.toList from (show s.data.toList.getD i 0 = 58 from u8_eq h) ▸ getD_mem hlt 0)]; simp
        · rw [decide_eq_true (show 10 ∈ s.data.toList from (show s.data.toList.getD i 0 = 10 from u8_eq h) ▸ getD_mem hlt 0)]; simp
      · try simp only [decide_eq_false_iff_not, Bool.or_eq_false_iff] at h37
        try simp only [Int.toNat_natCast] at h37
        have hc1 : s.data.toList.getD i 0 ≠ 58 := fun e => h37.1 (by rw [e]; rfl)
        have hc2 : s.data.toList.getD i 0 ≠ 10 := fun e => h37.2 (by rw [e]; rfl)
        refine acode_skip ?_
        refine acode_region ?_
        refine And.intro (by first | omega | assumption | decide | (simp only [Int.toNat_natCast, dflt_sl, dflt_st, dflt_str, dflt_int, dflt_bool]; omega) | (simp <;> omega)) ?_
        exact ⟨i + 1, ⟨by omega, notin_snoc hlt h1 hc1, notin_snoc hlt h2 hc2⟩, by first | omega | (simp <;> omega), le_of ⟨rfl, rfl⟩ trivial rfl⟩
    · try simp only [decide_eq_false_iff_not, Int.not_lt] at h25
      try simp only [Int.toNat_natCast, dflt_sl, dflt_st, dflt_str, dflt_int, dflt_bool] at h25
      refine acode_exit ?_
      refine acode_seq ?_
      refine acode_region ?_
      refine acode_ret ?_
      refine ib_eq ?_
      rw [List.take_of_length_le (by omega)] at h1 h2
      unfold keyOk
      obtain ⟨⟨⟨a1, a2⟩, a3⟩, a4⟩ := h21
      rw [a3, decide_eq_false h1, decide_eq_false h2, decide_eq_true (show 1 ≤ s.data.toList.length by omega), decide_eq_true (show s.data.toList.length ≤ 32 by omega), decide_eq_false (fun e : s.data.toList.getD 0 0 = 35 => a4 (by rw [show Int.toNat 0 = 0 from rfl, e]; rfl))]
      rfl
theorem all_take_succ {α : Type} (l : List α) (p : α → Bool) (d : α) (i : Nat) (h : i < l.length) : (l.take (i + 1)).all p = ((l.take i).all p && p (l.getD i d)) := by
  rw [← take_snoc d h, List.all_append]; simp
theorem map_snoc {α β : Type} (f : α → β) {l : List α} {i : Nat} (d : α) (h : i < l.length) : (l.take i).map f ++ [f (l.getD i d)] = (l.take (i + 1)).map f := (map_take_succ f l d i h).symm
theorem split_mem {s sep w : List UInt8} (h : w ∈ Lib.split s sep) : w.length ≤ s.length := by
  have : Lib.split s sep = (Lib.splitB (bytes sep) 0 (Lib.countB (bytes s) (bytes sep)) (bytes s)).map ls := by rw [split_ls]; unfold ls; rw [bytes_list, bytes_list]
  rw [this] at h
  obtain ⟨x, hx, rfl⟩ := List.mem_map.1 h
  have := split_size _ _ _ x hx
  rw [bytes_size, size_list] at this
  exact this
theorem acall_arg {P : Program} {f : FuncId} {xs ys : List A} {r : A} (h : ∀ ok ρ w vs, RepAs ok ρ w xs vs → RepAs ok ρ w ys vs) (hc : ACall P f ys r) : ACall P f xs r :=
  ⟨hc.1, fun ok w vs hg hv => hc.2 ok w vs hg (h _ _ _ _ hv)⟩
end Q
end Ab
end Go.Proofs.YtklhlkhlndhepaaGreatDoor
namespace Go.Proofs.YtklhlkhlndhepaaGreatDoor
open Go.RowKit
namespace Ab
namespace Q

theorem dropWhile_nil {α : Type} {p : α → Bool} : ∀ {l : List α}, l.dropWhile p = [] ↔ l.all p = true
  | [] => by simp
  | a :: l => by
    rw [List.dropWhile_cons, List.all_cons]
    cases h : p a
    · simp
    · simp [dropWhile_nil (p := p) (l := l)]
theorem mem_tw {α : Type} {p : α → Bool} {x : α} : ∀ {l : List α}, x ∈ l.takeWhile p → p x = true
  | a :: l, h => by
    rw [List.takeWhile_cons] at h
    split at h
    · rename_i hp
      rcases List.mem_cons.1 h with rfl | h
      · exact hp
      · exact mem_tw h
    · cases h
theorem trim_nil (l : List UInt8) : Lib.trimS l [32, 9] = [] ↔ l.all blankC = true := by
  have hp : (fun c : UInt8 => ([32, 9] : List UInt8).contains c) = blankC := by
    funext c; unfold blankC; simp
  unfold Lib.trimS Lib.trimLeftS Lib.trimRightS
  rw [show (fun x : UInt8 => ([32, 9] : List UInt8).contains x) = blankC from hp, dropWhile_nil]
  refine ⟨fun h => ?_, fun h => ?_⟩
  · refine List.all_eq_true.2 fun x hx => ?_
    by_cases hb : blankC x = true
    · exact hb
    · exfalso
      have h2 : x ∈ (l.reverse.dropWhile blankC) := by
        have hs : l.reverse = l.reverse.takeWhile blankC ++ l.reverse.dropWhile blankC := (List.takeWhile_append_dropWhile).symm
        have hm : x ∈ l.reverse := List.mem_reverse.2 hx
        rw [hs] at hm
        rcases List.mem_append.1 hm with h3 | h3
        · exact absurd (mem_tw h3) hb
        · exact h3
      exact hb (List.all_eq_true.1 h x (List.mem_reverse.2 h2))
  · have : l.reverse.dropWhile blankC = [] := dropWhile_nil.2 (by rw [List.all_reverse]; exact h)
    rw [this]; rfl
/-- A further line of a value, so that it can't be taken for another kind of line. -/
def stuffL (s : List UInt8) : List UInt8 := if s.all blankC || Lib.hasPrefix s [46] then 46 :: s else s
def partsL (v : List UInt8) : List (List UInt8) := Lib.split v [10]
def firstL (key : List UInt8) (p : List UInt8) : List UInt8 := key ++ [58] ++ (if p = [] then [] else 32 :: p)
def linesL (key v : List UInt8) : List (List UInt8) := firstL key ((partsL v).headD []) :: ((partsL v).drop 1).map fun s => 32 :: stuffL s
/-- A line's kind. -/
def kindL (l : List UInt8) : Int := if 10 ∈ l then 5 else if l.all blankC = true then 1 else if Lib.hasPrefix l [35] = true then 2 else if blankL l = true then 3
  else if ((Lib.cut l [58]).2.2 && keyOk (Lib.cut l [58]).1) = true then 4 else 5
theorem cut_at {key r : List UInt8} {c : UInt8} (h : c ∉ key) : Lib.cut (key ++ c :: r) [c] = (key, r, true) := by
  have hi : Lib.index (key ++ c :: r) [c] = key.length := by
    refine Lib.index_first (by simp) ((occ_one _ _ _).2 (by simp)) fun j hj => Bool.eq_false_iff.2 fun e => ?_
    have := (occ_one _ _ _).1 e
    rw [List.getElem?_append_left hj] at this
    exact h (List.mem_of_getElem? this)
  unfold Lib.cut
  rw [hi, if_pos (by omega), Int.toNat_natCast, List.take_left]
  show (key, List.drop (key.length + 1) (key ++ c :: r), true) = _
  rw [← List.drop_drop, List.drop_left]; rfl
/-- The field that lines say, and why they say none. -/
def valueL (l0 : List UInt8) (rest : List (List UInt8)) : List UInt8 := Lib.join (Lib.trimPrefix (Lib.cut l0 [58]).2.1 [32] :: rest.map fun s => Lib.trimPrefix (s.drop 1) [46]) [10]
def unfoldL : List (List UInt8) → (List UInt8 × List UInt8) × Int
  | [] => (([], []), 2)
  | l0 :: rest => if kindL l0 ≠ 4 ∨ (rest.any fun s => !decide (kindL s = 3)) = true then (([], []), 2) else if 1000 < (valueL l0 rest).length then (([], []), 6) else (((Lib.cut l0 [58]).1, valueL l0 rest), 0)
end Q
end Ab
end Go.Proofs.YtklhlkhlndhepaaGreatDoor
namespace Go.Proofs.YtklhlkhlndhepaaGreatDoor
open Go.RowKit
namespace Ab
set_option maxRecDepth 100000
namespace Q

def checkF (f : Fld) : Int := if keyOk f.1.data.toList = true then (if 1000 < f.2.size then 6 else 0) else 5
def errN (n : Int) : C := .lit (.iface 93 (.int .i64 n))
def errA (n : Int) : C := if n = 0 then .lit .nilIface else errN n
theorem errA_eq {n m : Int} (h : n = m) : A.one (errA n) = A.one (errA m) := by rw [h]
theorem check_c (f : Fld) (hk : f.1.size ≤ 1000000000) : ACall Tryz.prog 184 [.agg (toL rFld f)] (.one (errA (checkF f))) := by
  refine acall_of (rs := [2]) Tryz.func184 rfl rfl rfl teOk rfl ?_
  refine acode_seq ?_
  refine acode_region ?_
  refine acode_seq ?_
  refine acode_block ?_
  refine acode_seq ?_
  refine acode_region ?_
  refine Or.inl ?_
  refine And.intro (rfl) ?_
  refine Exists.intro _ (And.intro (key_c _ hk) ?_)
  refine acode_cond rfl (fun h3 => ?_) (fun h3 => ?_)
  · try simp only [Bool.not_eq_true'] at h3
    try simp only [Int.toNat_natCast, dflt_sl, dflt_st, dflt_str, dflt_int, dflt_bool] at h3
    refine acode_seq ?_
    refine acode_region ?_
    refine acode_ret ?_
    exact errA_eq (n := 5) (by unfold checkF; rw [if_neg (by rw [h3]; decide)])
  · try simp only [Bool.not_eq_false'] at h3
    try simp only [Int.toNat_natCast, dflt_sl, dflt_st, dflt_str, dflt_int, dflt_bool] at h3
    refine acode_seq ?_
    refine acode_region ?_
    refine acode_cond rfl (fun h9 => ?_) (fun h9 => ?_)
    · try simp only [decide_eq_true_eq] at h9
      try simp only [Int.toNat_natCast, dflt_sl, dflt_st, dflt_str, dflt_int, dflt_bool] at h9
      refine acode_seq ?_
      refine acode_region ?_
      refine acode_ret ?_
      exact errA_eq (n := 6) (by unfold checkF; rw [if_pos h3, if_pos (by omega)])
    · try simp only [decide_eq_false_iff_not, Int.not_lt] at h9
      try simp only [Int.toNat_natCast, dflt_sl, dflt_st, dflt_str, dflt_int, dflt_bool] at h9
      refine acode_skip ?_
      refine acode_seq ?_
      refine acode_region ?_
      refine acode_ret ?_
      exact errA_eq (n := 0) (by unfold checkF; rw [if_pos h3, if_neg (by omega)])
theorem check_v (f : Fld) (n : Int) (hk : f.1.size ≤ 1000000000) (h : checkF f = n) : ACall Tryz.prog 184 [.agg (toL rFld f)] (.one (errA n)) := by
  subst h; exact check_c f hk
theorem cut_v (s p : ByteArray) (l : List UInt8) (c : List UInt8 × List UInt8 × Bool) (hl : p.data.toList = l) (hc : Lib.cut s.data.toList l = c) (hs : s.size < 4294967281) : ACall Tryz.prog 116 [is s, is p] (.tup [(false, [.lit (.string (bytes c.1))]), (false, [.lit (.string (bytes c.2.1))]), (false, [.lit (.bool c.2.2)])]) := by
  subst hl hc; exact cut_c s p hs
theorem cut_len (l sep : List UInt8) : (Lib.cut l sep).1.length ≤ l.length ∧ (Lib.cut l sep).2.1.length ≤ l.length := by
  unfold Lib.cut
  split
  · simp only [List.length_take, List.length_drop]; omega
  · exact ⟨Nat.le_refl _, Nat.zero_le _⟩
theorem kind_c (s : ByteArray) (hs : s.size ≤ 1000000000) : ACall Tryz.prog 117 [is s] (ii .i64 (kindL s.data.toList)) := by
  have hz := size_list s
  obtain ⟨c, hc⟩ : ∃ c, Lib.cut s.data.toList [58] = c := ⟨_, rfl⟩
  have hcl : (bytes c.1).size ≤ 1000000000 := by rw [bytes_size, ← hc]; have := (cut_len s.data.toList [58]).1; omega
  have he : (⟨(Lib.trimS s.data.toList [32, 9]).toArray⟩ : ByteArray) = ⟨#[]⟩ ↔ s.data.toList.all blankC = true := by
    rw [emp, ← trim_nil]
    show (bytes (Lib.trimS s.data.toList [32, 9])).data.toList.length = 0 ↔ _
    rw [bytes_list]; exact ⟨List.eq_nil_of_length_eq_zero, fun h => by rw [h]; rfl⟩
  have hcon : Lib.contains s.data.toList [10] = decide (10 ∈ s.data.toList) := contains_one _ _
  refine acall_of (rs := [2]) Tryz.func117 rfl rfl rfl teOk rfl ?_
  refine acode_seq ?_
  refine acode_region ?_
  refine acode_seq ?_
  refine acode_block ?_
  refine acode_seq ?_
  refine acode_region ?_
  refine Or.inl ?_
  refine And.intro (rfl) ?_
  refine Exists.intro _ (And.intro (contains_c _ _ (by omega)) ?_)
  refine acode_cond rfl (fun h6 => ?_) (fun h6 => ?_)
  · skip
    have hm : 10 ∈ s.data.toList := of_decide_eq_true (hcon ▸ h6)
    refine acode_seq ?_
    refine acode_region ?_
    refine acode_ret ?_
    refine ii_eq ?_
    unfold kindL
    rw [if_pos hm]
  · skip
    have hm : 10 ∉ s.data.toList := of_decide_eq_false (hcon ▸ h6)
    refine acode_seq ?_
    refine acode_region ?_
    refine Or.inl ?_
    refine And.intro (rfl) ?_
    refine Exists.intro _ (And.intro (trimS_c _ _ (by decide) (by decide) (by omega)) ?_)
    refine acode_cond rfl (fun h9 => ?_) (fun h9 => ?_)
    · try simp only [decide_eq_true_eq] at h9
      try simp only [Int.toNat_natCast, dflt_sl, dflt_st, dflt_str, dflt_int, dflt_bool] at h9
      rw [he] at h9
      refine acode_seq ?_
      refine acode_region ?_
      refine acode_ret ?_
      refine ii_eq ?_
      unfold kindL
      rw [if_neg hm, if_pos h9]
    · try simp only [decide_eq_false_iff_not] at h9
      try simp only [Int.toNat_natCast, dflt_sl, dflt_st, dflt_str, dflt_int, dflt_bool] at h9
      rw [he] at h9
      refine acode_seq ?_
      refine acode_region ?_
      refine Or.inl ?_
      refine And.intro (rfl) ?_
      refine Exists.intro _ (And.intro (hasPrefix_c _ _) ?_)
      refine acode_cond rfl (fun h13 => ?_) (fun h13 => ?_)
      · skip
        refine acode_seq ?_
        refine acode_region ?_
        refine acode_ret ?_
        refine ii_eq ?_
        unfold kindL
        rw [if_neg hm, if_neg h9, if_pos h13]
      · skip
        refine acode_seq ?_
        refine acode_region ?_
        refine Or.inl ?_
        refine And.intro (rfl) ?_
        refine Exists.intro _ (And.intro (blank_c _ hs) ?_)
        refine acode_cond rfl (fun h16 => ?_) (fun h16 => ?_)
        · try simp only [decide_eq_true_eq, decide_eq_false_iff_not, Bool.and_eq_true, Bool.not_eq_true', Bool.not_eq_false', Bool.or_eq_false_iff, Bool.or_eq_true, Bool.and_eq_false_iff, Int.not_lt, Int.not_le] at h16
          try simp only [Int.toNat_natCast, dflt_sl, dflt_st, dflt_str, dflt_int, dflt_bool] at h16
          refine acode_seq ?_
          refine acode_region ?_
          refine acode_ret ?_
          refine ii_eq ?_
          unfold kindL
          rw [if_neg hm, if_neg h9, if_neg (by rw [Bool.not_eq_true]; exact h13), if_pos h16]
        · try simp only [decide_eq_true_eq, decide_eq_false_iff_not, Bool.and_eq_true, Bool.not_eq_true', Bool.not_eq_false', Bool.or_eq_false_iff, Bool.or_eq_true, Bool.and_eq_false_iff, Int.not_lt, Int.not_le] at h16
          try simp only [Int.toNat_natCast, dflt_sl, dflt_st, dflt_str, dflt_int, dflt_bool] at h16
          refine acode_skip ?_
          refine acode_seq ?_
          refine acode_seq ?_
          refine acode_region ?_
          refine Or.inl ?_
          refine And.intro (rfl) ?_
          refine Exists.intro _ (And.intro (cut_v _ _ [58] c rfl hc (by omega)) ?_)
          refine acode_seq ?_
          refine acode_region ?_
          refine And.intro (fun h => trivial) ?_
          refine And.intro (rfl) ?_
          refine Exists.intro _ (And.intro (fun h => ⟨⟨⟨h, trivial⟩, trivial⟩, key_c _ hcl⟩) ?_)
          refine And.intro (by exact fun h => h) ?_
          refine acode_cond rfl (fun h29 => ?_) (fun h29 => ?_)
          · try simp only [Bool.and_eq_true] at h29
            try simp only [Int.toNat_natCast, dflt_sl, dflt_st, dflt_str, dflt_int, dflt_bool] at h29
            refine acode_seq ?_
            refine acode_region ?_
            refine acode_ret ?_
            refine ii_eq ?_
            unfold kindL
            rw [if_neg hm, if_neg h9, if_neg (by rw [Bool.not_eq_true]; exact h13), if_neg (by rw [Bool.not_eq_true]; exact h16), hc, if_pos (by rw [Bool.and_eq_true]; rw [bytes_list] at h29; exact h29)]
          · try simp only [Bool.and_eq_false_iff] at h29
            try simp only [Int.toNat_natCast, dflt_sl, dflt_st, dflt_str, dflt_int, dflt_bool] at h29
            refine acode_skip ?_
            refine acode_seq ?_
            refine acode_region ?_
            refine acode_ret ?_
            refine ii_eq ?_
            unfold kindL
            rw [if_neg hm, if_neg h9, if_neg (by rw [Bool.not_eq_true]; exact h13), if_neg (by rw [Bool.not_eq_true]; exact h16), hc, if_neg (by rw [Bool.not_eq_true, Bool.and_eq_false_iff]; rw [bytes_list] at h29; exact h29)]
/-- A line's key and what stands behind the colon. -/
def cutL (l : List UInt8) : List UInt8 × List UInt8 × Bool := if kindL l = 4 then Lib.cut l [58] else ([], [], false)
def cutA (c : List UInt8 × List UInt8 × Bool) : A := .tup [(false, [.lit (.string (bytes c.1))]), (false, [.lit (.string (bytes c.2.1))]), (false, [.lit (.bool c.2.2)])]
theorem cutA_eq {c c' : List UInt8 × List UInt8 × Bool} (h : c = c') : cutA c = cutA c' := by rw [h]
theorem lcut_c (s : ByteArray) (hs : s.size ≤ 1000000000) : ACall Tryz.prog 182 [is s] (cutA (cutL s.data.toList)) := by
  refine acall_of (rs := [2, 3, 4]) Tryz.func182 rfl rfl rfl teOk rfl ?_
  refine acode_seq ?_
  refine acode_region ?_
  refine acode_seq ?_
  refine acode_seq ?_
  refine acode_region ?_
  refine Or.inl ?_
  refine And.intro (rfl) ?_
  refine Exists.intro _ (And.intro (kind_c s hs) ?_)
  refine acode_cond rfl (fun h7 => ?_) (fun h7 => ?_)
  · try simp only [decide_eq_false_iff_not, Bool.not_eq_true'] at h7
    try simp only [Int.toNat_natCast, dflt_sl, dflt_st, dflt_str, dflt_int, dflt_bool] at h7
    refine acode_seq ?_
    refine acode_region ?_
    refine acode_ret ?_
    exact cutA_eq (c := ([], [], false)) (by unfold cutL; rw [if_neg h7])
  · try simp only [decide_eq_true_eq, Bool.not_eq_false'] at h7
    try simp only [Int.toNat_natCast, dflt_sl, dflt_st, dflt_str, dflt_int, dflt_bool] at h7
    refine acode_skip ?_
    refine acode_seq ?_
    refine acode_region ?_
    refine Or.inl ?_
    refine And.intro (rfl) ?_
    refine Exists.intro _ (And.intro (cut_v _ _ [58] _ rfl rfl (by omega)) ?_)
    refine acode_ret ?_
    exact cutA_eq (c := Lib.cut s.data.toList [58]) (by unfold cutL; rw [if_pos h7])
end Q
end Ab
end Go.Proofs.YtklhlkhlndhepaaGreatDoor
namespace Go.Proofs.YtklhlkhlndhepaaGreatDoor
open Go.RowKit
namespace Ab
set_option maxRecDepth 100000
namespace Q

/-- Ahead of a line's first colon, and behind it, if that is a good key. -/
def refCutL (l : List UInt8) : List UInt8 × List UInt8 × Bool := if 10 ∈ l then ([], [], false) else if ((Lib.cut l [58]).2.2 && keyOk (Lib.cut l [58]).1) = true then Lib.cut l [58] else ([], [], false)
theorem cut_first {l : List UInt8} {c : UInt8} {i : Nat} (hi : i < l.length) (hc : l.getD i 0 = c) (hn : c ∉ l.take i) : Lib.cut l [c] = (l.take i, l.drop (i + 1), true) := by
  have : l = l.take i ++ c :: l.drop (i + 1) := by
    conv => lhs; rw [← List.take_append_drop i l, drop_cons hi, hc]
  conv => lhs; rw [this]
  exact cut_at hn
theorem cut_none {l : List UInt8} {c : UInt8} (h : c ∉ l) : Lib.cut l [c] = (l, [], false) := by
  have hi : Lib.index l [c] = -1 := Lib.index_none fun j _ => Bool.eq_false_iff.2 fun e => h (List.mem_of_getElem? ((occ_one _ _ _).1 e))
  unfold Lib.cut
  rw [hi, if_neg (by omega)]
theorem refKey_v (s : ByteArray) (l : List UInt8) (hl : s.data.toList = l) (hs : l.length ≤ 1000000000) : ACall Tryz.prog 170 [is s] (ib (keyOk l)) := by
  subst hl; exact refKey_c s (by rw [size_list]; exact hs)
theorem tup3_eq {a a' b b' : ByteArray} {c : Bool} (h1 : a = a') (h2 : b = b') : A.tup [(false, [.lit (.string a)]), (false, [.lit (.string b)]), (false, [.lit (.bool c)])] = A.tup [(false, [.lit (.string a')]), (false, [.lit (.string b')]), (false, [.lit (.bool c)])] := by rw [h1, h2]
theorem refCut_c (s : ByteArray) (hs : s.size ≤ 1000000000) : ACall Tryz.prog 138 [is s] (cutA (refCutL s.data.toList)) := by
  have hz := size_list s
  refine acall_of (rs := [2, 3, 4]) Tryz.func138 rfl rfl rfl teOk rfl ?_
  refine acode_seq ?_
  refine acode_region ?_
  refine acode_seq ?_
  refine acode_seq ?_
  refine acode_region ?_
  refine acode_block ?_
  refine acode_loopP (fun (i : Nat) => i ≤ s.size ∧ 10 ∉ s.data.toList.take i) (fun (i : Nat) => [(0, is s), (5, ii .i64 i)]) (fun (i : Nat) => []) 0 (fun (i : Nat) => s.size - i) 0 (⟨Nat.zero_le _, by simp⟩) (le_of ⟨rfl, rfl⟩ trivial rfl) ?_
  intro i hI0
  obtain ⟨hi, h1⟩ := hI0
  refine acode_seq ?_
  refine acode_seq ?_
  refine acode_region ?_
  refine acode_cond rfl (fun h10 => ?_) (fun h10 => ?_)
  · try simp only [decide_eq_true_eq] at h10
    try simp only [Int.toNat_natCast, dflt_sl, dflt_st, dflt_str, dflt_int, dflt_bool] at h10
    have hlt : i < s.data.toList.length := by omega
    refine acode_skip ?_
    refine acode_seq ?_
    refine acode_block ?_
    refine acode_seq ?_
    refine acode_region ?_
    refine And.intro (by first | omega | assumption | decide | (simp only [Int.toNat_natCast, dflt_sl, dflt_st, dflt_str, dflt_int, dflt_bool]; omega) | (simp <;> omega)) ?_
    refine acode_cond rfl (fun h16 => ?_) (fun h16 => ?_)
    · try simp only [decide_eq_true_eq] at h16
      try simp only [Int.toNat_natCast] at h16
      have hm : 10 ∈ s.data.toList := (show s.data.toList.getD i 0 = 10 from u8_eq h16) ▸ getD_mem hlt 0
      refine acode_seq ?_
      refine acode_region ?_
      refine acode_ret ?_
      exact cutA_eq (c := ([], [], false)) (by unfold refCutL; rw [if_pos hm])
    · try simp only [decide_eq_false_iff_not] at h16
      try simp only [Int.toNat_natCast] at h16
      have hne : s.data.toList.getD i 0 ≠ 10 := fun e => h16 (by rw [e]; rfl)
      refine acode_skip ?_
      refine acode_region ?_
      refine And.intro (by first | omega | assumption | decide | (simp only [Int.toNat_natCast, dflt_sl, dflt_st, dflt_str, dflt_int, dflt_bool]; omega) | (simp <;> omega)) ?_
      exact ⟨i + 1, ⟨by omega, notin_snoc hlt h1 hne⟩, by first | omega | (simp <;> omega), le_of ⟨rfl, (ii_eq (by omega))⟩ trivial rfl⟩
  · try simp only [decide_eq_false_iff_not, Int.not_lt] at h10
    try simp only [Int.toNat_natCast, dflt_sl, dflt_st, dflt_str, dflt_int, dflt_bool] at h10
    rw [List.take_of_length_le (by omega)] at h1
    refine acode_exit ?_
    refine acode_seq ?_
    refine acode_seq ?_
    refine acode_region ?_
    refine acode_block ?_
    refine acode_loopP (fun (k : Nat) => k ≤ s.size ∧ 58 ∉ s.data.toList.take k) (fun (k : Nat) => [(0, is s), (6, ii .i64 k)]) (fun (k : Nat) => []) 0 (fun (k : Nat) => s.size - k) 0 (⟨Nat.zero_le _, by simp⟩) (le_of ⟨rfl, rfl⟩ trivial rfl) ?_
    intro k hI2
    obtain ⟨hk, h2⟩ := hI2
    refine acode_seq ?_
    refine acode_seq ?_
    refine acode_region ?_
    refine acode_cond rfl (fun h20 => ?_) (fun h20 => ?_)
    · try simp only [decide_eq_true_eq] at h20
      try simp only [Int.toNat_natCast, dflt_sl, dflt_st, dflt_str, dflt_int, dflt_bool] at h20
      have hlt2 : k < s.data.toList.length := by omega
      refine acode_skip ?_
      refine acode_seq ?_
      refine acode_block ?_
      refine acode_seq ?_
      refine acode_region ?_
      refine And.intro (by first | omega | assumption | decide | (simp only [Int.toNat_natCast, dflt_sl, dflt_st, dflt_str, dflt_int, dflt_bool]; omega) | (simp <;> omega)) ?_
      refine acode_cond rfl (fun h26 => ?_) (fun h26 => ?_)
      · try simp only [decide_eq_true_eq] at h26
        try simp only [Int.toNat_natCast] at h26
        have hcut := cut_first hlt2 (show s.data.toList.getD k 0 = 58 from u8_eq h26) h2
        refine acode_seq ?_
        refine acode_seq ?_
        refine acode_region ?_
        refine And.intro (by first | omega | assumption | decide | (simp only [Int.toNat_natCast, dflt_sl, dflt_st, dflt_str, dflt_int, dflt_bool]; omega) | (simp <;> omega)) ?_
        refine Or.inl ?_
        refine And.intro (rfl) ?_
        refine Exists.intro _ (And.intro (refKey_v _ (s.data.toList.take k) (by rw [extract_ls, Int.toNat_natCast]; simp) (by rw [List.length_take]; omega)) ?_)
        refine acode_cond rfl (fun h31 => ?_) (fun h31 => ?_)
        · try simp only [Bool.not_eq_true'] at h31
          try simp only [Int.toNat_natCast, dflt_sl, dflt_st, dflt_str, dflt_int, dflt_bool] at h31
          refine acode_seq ?_
          refine acode_region ?_
          refine acode_ret ?_
          exact cutA_eq (c := ([], [], false)) (by unfold refCutL; rw [if_neg h1, hcut, if_neg (by simp only [Bool.true_and]; rw [h31]; decide)])
        · try simp only [Bool.not_eq_false'] at h31
          try simp only [Int.toNat_natCast, dflt_sl, dflt_st, dflt_str, dflt_int, dflt_bool] at h31
          refine acode_skip ?_
          refine acode_seq ?_
          refine acode_draw rfl (by kernel_rfl) ?_
          refine And.intro (by first | omega | assumption | decide | (simp only [Int.toNat_natCast, dflt_sl, dflt_st, dflt_str, dflt_int, dflt_bool]; omega) | (simp <;> omega)) ?_
          refine And.intro (by first | omega | assumption | decide | (simp only [Int.toNat_natCast, dflt_sl, dflt_st, dflt_str, dflt_int, dflt_bool]; omega) | (simp <;> omega)) ?_
          refine And.intro (by first | omega | assumption | decide | (simp only [Int.toNat_natCast, dflt_sl, dflt_st, dflt_str, dflt_int, dflt_bool]; omega) | (simp <;> omega)) ?_
          refine acode_ret ?_
          rw [show refCutL s.data.toList = (s.data.toList.take k, s.data.toList.drop (k + 1), true) by unfold refCutL; rw [if_neg h1, hcut, if_pos (by simp only [Bool.true_and]; exact h31)]]
          exact tup3_eq (ls_inj (by unfold ls; rw [extract_ls, Int.toNat_natCast]; simp)) (ls_inj (by unfold ls; rw [extract_ls, show ((k : Int) + 1).toNat = k + 1 by omega, List.take_of_length_le (by rw [List.length_drop]; omega)]))
      · try simp only [decide_eq_false_iff_not] at h26
        try simp only [Int.toNat_natCast] at h26
        have hne2 : s.data.toList.getD k 0 ≠ 58 := fun e => h26 (by rw [e]; rfl)
        refine acode_skip ?_
        refine acode_region ?_
        refine And.intro (by first | omega | assumption | decide | (simp only [Int.toNat_natCast, dflt_sl, dflt_st, dflt_str, dflt_int, dflt_bool]; omega) | (simp <;> omega)) ?_
        exact ⟨k + 1, ⟨by omega, notin_snoc hlt2 h2 hne2⟩, by first | omega | (simp <;> omega), le_of ⟨rfl, (ii_eq (by omega))⟩ trivial rfl⟩
    · try simp only [decide_eq_false_iff_not, Int.not_lt] at h20
      try simp only [Int.toNat_natCast, dflt_sl, dflt_st, dflt_str, dflt_int, dflt_bool] at h20
      refine acode_exit ?_
      refine acode_seq ?_
      refine acode_region ?_
      refine acode_ret ?_
      exact cutA_eq (c := ([], [], false)) (by unfold refCutL; rw [if_neg h1, cut_none (by rw [List.take_of_length_le (by omega)] at h2; exact h2), if_neg (by simp)])
end Q
end Ab
end Go.Proofs.YtklhlkhlndhepaaGreatDoor
namespace Go.Proofs.YtklhlkhlndhepaaGreatDoor
open Go.RowKit
namespace Ab
set_option maxRecDepth 100000
namespace Q
theorem refCut_v (s : ByteArray) (c : List UInt8 × List UInt8 × Bool) (hc : refCutL s.data.toList = c) (hs : s.size ≤ 1000000000) : ACall Tryz.prog 138 [is s] (cutA c) := by
  subst hc; exact refCut_c s hs
theorem kind_tail {l : List UInt8} (h1 : 10 ∉ l) (hb : l.all blankC = false) : kindL l = if l.getD 0 0 = 35 then 2 else if blankC (l.getD 0 0) = true then 3 else if (refCutL l).2.2 = true then 4 else 5 := by
  cases l with
  | nil => cases hb
  | cons c r =>
    have e : (refCutL (c :: r)).2.2 = ((Lib.cut (c :: r) [58]).2.2 && keyOk (Lib.cut (c :: r) [58]).1) := by
      unfold refCutL
      rw [if_neg h1]
      split
      · rename_i h; rw [h]; simp only [Bool.and_eq_true] at h; exact h.1
      · rename_i h; exact (Bool.not_eq_true _ ▸ h : _ = false).symm
    unfold kindL
    rw [if_neg h1, if_neg (by rw [hb]; decide), hasPrefix_one, e]
    simp [blankL]
theorem refKind_c (s : ByteArray) (hs : s.size ≤ 1000000000) : ACall Tryz.prog 105 [is s] (ii .i64 (kindL s.data.toList)) := by
  have hz := size_list s
  refine acall_of (rs := [2]) Tryz.func105 rfl rfl rfl teOk rfl ?_
  refine acode_seq ?_
  refine acode_region ?_
  refine acode_seq ?_
  refine acode_region ?_
  refine acode_seq ?_
  refine acode_seq ?_
  refine acode_region ?_
  refine acode_block ?_
  refine acode_loopP (fun (i : Nat) => i ≤ s.size ∧ 10 ∉ s.data.toList.take i) (fun (i : Nat) => [(0, is s), (3, ib ((s.data.toList.take i).all blankC)), (4, ii .i64 i)]) (fun (i : Nat) => []) 0 (fun (i : Nat) => s.size - i) 0 (⟨Nat.zero_le _, by simp⟩) (le_of ⟨rfl, rfl, rfl⟩ trivial rfl) ?_
  intro i hI0
  obtain ⟨hi, h1⟩ := hI0
  refine acode_seq ?_
  refine acode_seq ?_
  refine acode_region ?_
  refine acode_cond rfl (fun h11 => ?_) (fun h11 => ?_)
  · try simp only [decide_eq_true_eq] at h11
    try simp only [Int.toNat_natCast, dflt_sl, dflt_st, dflt_str, dflt_int, dflt_bool] at h11
    have hlt : i < s.data.toList.length := by omega
    refine acode_skip ?_
    refine acode_seq ?_
    refine acode_block ?_
    refine acode_seq ?_
    refine acode_seq ?_
    refine acode_region ?_
    refine And.intro (by first | omega | assumption | decide | (simp only [Int.toNat_natCast, dflt_sl, dflt_st, dflt_str, dflt_int, dflt_bool]; omega) | (simp <;> omega)) ?_
    refine acode_cond rfl (fun h17 => ?_) (fun h17 => ?_)
    · try simp only [decide_eq_true_eq] at h17
      try simp only [Int.toNat_natCast] at h17
      have hm : 10 ∈ s.data.toList := (show s.data.toList.getD i 0 = 10 from u8_eq h17) ▸ getD_mem hlt 0
      refine acode_seq ?_
      refine acode_region ?_
      refine acode_ret ?_
      refine ii_eq ?_
      unfold kindL
      rw [if_pos hm]
    · try simp only [decide_eq_false_iff_not] at h17
      try simp only [Int.toNat_natCast] at h17
      have hne : s.data.toList.getD i 0 ≠ 10 := fun e => h17 (by rw [e]; rfl)
      refine acode_skip ?_
      refine acode_region ?_
      refine And.intro (fun h => trivial) ?_
      refine And.intro (fun h => trivial) ?_
      refine And.intro (fun h => ⟨⟨⟨h, trivial⟩, ⟨h, trivial⟩, trivial⟩, by first | omega | decide | (simp only [Int.toNat_natCast, dflt_sl, dflt_st, dflt_str, dflt_int, dflt_bool]; omega) | (have h9 := of_decide_eq_true h; omega) | (simp [gq] at h; omega)⟩) ?_
      refine And.intro (rfl) ?_
      refine Exists.intro _ (And.intro (fun h => ⟨⟨⟨h, trivial⟩, trivial⟩, refBlank_c (s.data.toList.getD i 0) _ rfl⟩) ?_)
      refine And.intro (by exact fun h => h) ?_
      refine acode_region ?_
      refine And.intro (by first | omega | assumption | decide | (simp only [Int.toNat_natCast, dflt_sl, dflt_st, dflt_str, dflt_int, dflt_bool]; omega) | (simp <;> omega)) ?_
      exact ⟨i + 1, ⟨by omega, notin_snoc hlt h1 hne⟩, by first | omega | (simp <;> omega), le_of ⟨rfl, (ib_eq (all_take_succ s.data.toList blankC 0 i hlt).symm), (ii_eq (by omega))⟩ trivial rfl⟩
  · try simp only [decide_eq_false_iff_not, Int.not_lt] at h11
    try simp only [Int.toNat_natCast, dflt_sl, dflt_st, dflt_str, dflt_int, dflt_bool] at h11
    rw [List.take_of_length_le (by omega)] at h1 ⊢
    refine acode_exit ?_
    refine acode_seq ?_
    refine acode_seq ?_
    refine acode_region ?_
    refine acode_cond rfl (fun h25 => ?_) (fun h25 => ?_)
    · try simp only [decide_eq_true_eq, decide_eq_false_iff_not, Bool.and_eq_true, Bool.not_eq_true', Bool.not_eq_false', Bool.or_eq_false_iff, Bool.or_eq_true, Bool.and_eq_false_iff, Int.not_lt, Int.not_le] at h25
      try simp only [Int.toNat_natCast, dflt_sl, dflt_st, dflt_str, dflt_int, dflt_bool] at h25
      refine acode_seq ?_
      refine acode_region ?_
      refine acode_ret ?_
      refine ii_eq ?_
      unfold kindL
      rw [if_neg h1, if_pos h25]
    · try simp only [decide_eq_true_eq, decide_eq_false_iff_not, Bool.and_eq_true, Bool.not_eq_true', Bool.not_eq_false', Bool.or_eq_false_iff, Bool.or_eq_true, Bool.and_eq_false_iff, Int.not_lt, Int.not_le] at h25
      try simp only [Int.toNat_natCast, dflt_sl, dflt_st, dflt_str, dflt_int, dflt_bool] at h25
      have hpos : 0 < s.data.toList.length := Nat.pos_of_ne_zero fun h => by rw [List.eq_nil_of_length_eq_zero h] at h25; cases h25
      refine acode_skip ?_
      refine acode_seq ?_
      refine acode_seq ?_
      refine acode_region ?_
      refine And.intro (by first | omega | assumption | decide | (simp only [Int.toNat_natCast, dflt_sl, dflt_st, dflt_str, dflt_int, dflt_bool]; omega) | (simp <;> omega)) ?_
      refine acode_cond rfl (fun h28 => ?_) (fun h28 => ?_)
      · try simp only [decide_eq_true_eq] at h28
        try simp only [Int.toNat_natCast, dflt_sl, dflt_st, dflt_str, dflt_int, dflt_bool] at h28
        refine acode_seq ?_
        refine acode_region ?_
        refine acode_ret ?_
        refine ii_eq ?_
        rw [kind_tail h1 h25, if_pos (u8_eq h28)]
      · try simp only [decide_eq_false_iff_not] at h28
        try simp only [Int.toNat_natCast, dflt_sl, dflt_st, dflt_str, dflt_int, dflt_bool] at h28
        refine acode_skip ?_
        refine acode_seq ?_
        refine acode_seq ?_
        refine acode_region ?_
        refine And.intro (by first | omega | assumption | decide | (simp only [Int.toNat_natCast, dflt_sl, dflt_st, dflt_str, dflt_int, dflt_bool]; omega) | (simp <;> omega)) ?_
        refine Or.inl ?_
        refine And.intro (rfl) ?_
        refine Exists.intro _ (And.intro (refBlank_c (s.data.toList.getD 0 0) _ rfl) ?_)
        refine acode_cond rfl (fun h31 => ?_) (fun h31 => ?_)
        · try simp only [decide_eq_true_eq, decide_eq_false_iff_not, Bool.and_eq_true, Bool.not_eq_true', Bool.not_eq_false', Bool.or_eq_false_iff, Bool.or_eq_true, Bool.and_eq_false_iff, Int.not_lt, Int.not_le] at h31
          try simp only [Int.toNat_natCast, dflt_sl, dflt_st, dflt_str, dflt_int, dflt_bool] at h31
          refine acode_seq ?_
          refine acode_region ?_
          refine acode_ret ?_
          refine ii_eq ?_
          rw [kind_tail h1 h25, if_neg (fun e => h28 (by rw [show s.data.toList.getD (Int.toNat 0) 0 = 35 from e]; rfl)), if_pos h31]
        · try simp only [decide_eq_true_eq, decide_eq_false_iff_not, Bool.and_eq_true, Bool.not_eq_true', Bool.not_eq_false', Bool.or_eq_false_iff, Bool.or_eq_true, Bool.and_eq_false_iff, Int.not_lt, Int.not_le] at h31
          try simp only [Int.toNat_natCast, dflt_sl, dflt_st, dflt_str, dflt_int, dflt_bool] at h31
          refine acode_skip ?_
          refine acode_seq ?_
          refine acode_seq ?_
          refine acode_region ?_
          refine Or.inl ?_
          refine And.intro (rfl) ?_
          refine Exists.intro _ (And.intro (refCut_v s _ rfl hs) ?_)
          refine acode_seq ?_
          refine acode_region ?_
          refine acode_cond rfl (fun h38 => ?_) (fun h38 => ?_)
          · try simp only [decide_eq_true_eq, decide_eq_false_iff_not, Bool.and_eq_true, Bool.not_eq_true', Bool.not_eq_false', Bool.or_eq_false_iff, Bool.or_eq_true, Bool.and_eq_false_iff, Int.not_lt, Int.not_le] at h38
            try simp only [Int.toNat_natCast, dflt_sl, dflt_st, dflt_str, dflt_int, dflt_bool] at h38
            refine acode_seq ?_
            refine acode_region ?_
            refine acode_ret ?_
            refine ii_eq ?_
            rw [kind_tail h1 h25, if_neg (fun e => h28 (by rw [show s.data.toList.getD (Int.toNat 0) 0 = 35 from e]; rfl)), if_neg (by rw [h31]; decide), if_pos h38]
          · try simp only [decide_eq_true_eq, decide_eq_false_iff_not, Bool.and_eq_true, Bool.not_eq_true', Bool.not_eq_false', Bool.or_eq_false_iff, Bool.or_eq_true, Bool.and_eq_false_iff, Int.not_lt, Int.not_le] at h38
            try simp only [Int.toNat_natCast, dflt_sl, dflt_st, dflt_str, dflt_int, dflt_bool] at h38
            refine acode_skip ?_
            refine acode_seq ?_
            refine acode_region ?_
            refine acode_ret ?_
            refine ii_eq ?_
            rw [kind_tail h1 h25, if_neg (fun e => h28 (by rw [show s.data.toList.getD (Int.toNat 0) 0 = 35 from e]; rfl)), if_neg (by rw [h31]; decide), if_neg (by rw [h38]; decide)]
end Q
end Ab
end Go.Proofs.YtklhlkhlndhepaaGreatDoor
namespace Go.Proofs.YtklhlkhlndhepaaGreatDoor
open Go.RowKit
namespace Ab
set_option maxRecDepth 100000
namespace Q

def lineB (key v : ByteArray) : List ByteArray := (linesL key.data.toList v.data.toList).map bytes
def linesA (f : Fld) : A := if checkF f = 0 then .tup [(false, [.sl .str (lineB f.1 f.2)]), (false, [.lit .nilIface])] else .tup [(false, [.sl .str []]), (false, [errN (checkF f)])]
end Q
end Ab
end Go.Proofs.YtklhlkhlndhepaaGreatDoor
namespace Go.Proofs.YtklhlkhlndhepaaGreatDoor
open Go.RowKit
namespace Ab
set_option maxRecDepth 100000
namespace Q
def endL (ls : List (List UInt8)) : List UInt8 := ls.flatMap fun s => s ++ [10]
def textL (f : Fld) : List UInt8 := endL (linesL f.1.data.toList f.2.data.toList)
def foldL (l : List Fld) : List UInt8 := l.flatMap textL
/-- Why the first field that isn't good isn't. -/
def badF (l : List Fld) : Int := match l with
  | [] => 0
  | f :: r => if checkF f = 0 then badF r else checkF f
def foldA (l : List Fld) : A := if badF l = 0 then .tup [(false, [.lit (.string (bytes (foldL l)))]), (false, [.lit .nilIface])] else .tup [(false, [.lit (.string ⟨#[]⟩)]), (false, [errN (badF l)])]
end Q
end Ab
end Go.Proofs.YtklhlkhlndhepaaGreatDoor
namespace Go.Proofs.YtklhlkhlndhepaaGreatDoor
open Go.RowKit
namespace Ab
set_option maxRecDepth 100000
namespace Q
end Q
end Ab
end Go.Proofs.YtklhlkhlndhepaaGreatDoor
namespace Go.Proofs.YtklhlkhlndhepaaGreatDoor
open Go.RowKit
namespace Ab
set_option maxRecDepth 100000
namespace Q
theorem join_snoc {ps : List (List UInt8)} (q sep : List UInt8) (h : ps ≠ []) : Lib.join (ps ++ [q]) sep = Lib.join ps sep ++ (sep ++ q) := by
  induction ps with
  | nil => exact absurd rfl h
  | cons p r ih =>
    cases r with
    | nil => rw [List.cons_append, List.nil_append, join_two, Lib.join_one, Lib.join_one]; simp
    | cons a b => rw [List.cons_append, List.cons_append, join_two, join_two, ← List.cons_append, ih (by simp)]; simp
def partB (s : ByteArray) : List ByteArray := (partsL s.data.toList).map bytes
end Q
end Ab
end Go.Proofs.YtklhlkhlndhepaaGreatDoor
namespace Go.Proofs.YtklhlkhlndhepaaGreatDoor
open Go.RowKit
namespace Ab
set_option maxRecDepth 100000
namespace Q
theorem list_ext_take {α : Type} {a b : List α} {i : Nat} (d : α) (ha : i < a.length) (hb : i < b.length) (h : a.take i = b.take i) (he : a.getD i d = b.getD i d) : a.take (i + 1) = b.take (i + 1) := by
  rw [← take_snoc d ha, ← take_snoc d hb, h, he]
theorem ne_at {α : Type} {a b : List α} {i : Nat} (d : α) (he : a.getD i d ≠ b.getD i d) : ¬ a = b := fun e => he (by rw [e])
abbrev rFault : Rd (Int × Value) := .st (.int .i64) .raw
def errF (at_ n : Int) : C := .ifc 156 (.addr rFault (at_, .iface 93 (.int .i64 n)))
end Q
end Ab
end Go.Proofs.YtklhlkhlndhepaaGreatDoor
namespace Go.Proofs.YtklhlkhlndhepaaGreatDoor
open Go.RowKit
namespace Ab
set_option maxRecDepth 100000
namespace Q
/-- Lines that are not too many, nor too long together. -/
def LinesOk (l : List ByteArray) : Prop := l.length ≤ 1000000 ∧ (l.map (·.size)).sum ≤ 100000000
theorem sum_mem {l : List ByteArray} {s : ByteArray} (h : s ∈ l) : s.size ≤ (l.map (·.size)).sum := by
  induction l with
  | nil => cases h
  | cons a r ih =>
    rw [List.map_cons, List.sum_cons]
    rcases List.mem_cons.1 h with rfl | h
    · omega
    · have := ih h; omega
def unfA (l : List ByteArray) : A := if (unfoldL (l.map ls)).2 = 0 then .tup [(true, [.lit (.string (bytes (unfoldL (l.map ls)).1.1)), .lit (.string (bytes (unfoldL (l.map ls)).1.2))]), (false, [.lit .nilIface])]
  else .tup [(true, [.lit (.string ⟨#[]⟩), .lit (.string ⟨#[]⟩)]), (false, [errN (unfoldL (l.map ls)).2])]
theorem unfA_bad {l : List ByteArray} {n : Int} (h : (unfoldL (l.map ls)).2 = n) (hn : n ≠ 0) : unfA l = .tup [(true, [.lit (.string ⟨#[]⟩), .lit (.string ⟨#[]⟩)]), (false, [errN n])] := by
  unfold unfA; rw [if_neg (by rw [h]; exact hn), h]
theorem unfA_ok {l : List ByteArray} {k v : List UInt8} (h : unfoldL (l.map ls) = ((k, v), 0)) : unfA l = .tup [(true, [.lit (.string (bytes k)), .lit (.string (bytes v))]), (false, [.lit .nilIface])] := by
  unfold unfA; rw [if_pos (by rw [h]), h]
theorem trimP_len (s p : List UInt8) : (Lib.trimPrefix s p).length ≤ s.length := by
  unfold Lib.trimPrefix; split
  · rw [List.length_drop]; omega
  · exact Nat.le_refl _
theorem joinL_len (c : UInt8) : ∀ l : List (List UInt8), (Lib.join l [c]).length ≤ (l.map (·.length)).sum + l.length
  | [] => by simp [Lib.join]
  | [a] => by rw [Lib.join_one]; simp
  | a :: b :: r => by
    have := joinL_len c (b :: r)
    rw [join_two]
    simp only [List.length_append, List.length_cons, List.length_nil, List.map_cons, List.sum_cons] at this ⊢
    omega
theorem map_sum_le {α : Type} (f g : α → Nat) : ∀ l : List α, (∀ x ∈ l, f x ≤ g x) → (l.map f).sum ≤ (l.map g).sum
  | [], _ => Nat.le_refl _
  | a :: r, h => by
    simp only [List.map_cons, List.sum_cons]
    have := h a (by simp)
    have := map_sum_le f g r fun x hx => h x (by simp [hx])
    omega
/-- What stands on a further line. -/
def moreB (s : ByteArray) : ByteArray := bytes (Lib.trimPrefix (s.data.toList.drop 1) [46])
def firstB (s : ByteArray) : ByteArray := bytes (Lib.trimPrefix (Lib.cut s.data.toList [58]).2.1 [32])
theorem value_join (s : ByteArray) (r : List ByteArray) : Lib.join ((firstB s :: r.map moreB).map (·.data.toList)) [10] = valueL (ls s) (r.map ls) := by
  unfold valueL firstB moreB
  rw [List.map_cons, bytes_list, List.map_map, List.map_map]
  congr 2
theorem value_len (s : ByteArray) (r : List ByteArray) : (valueL (ls s) (r.map ls)).length ≤ s.size + (r.map (·.size)).sum + r.length + 1 := by
  unfold valueL
  refine Nat.le_trans (joinL_len 10 _) ?_
  rw [List.map_cons, List.sum_cons, List.length_cons, List.map_map, List.map_map, List.length_map, List.length_map]
  have h1 := trimP_len (Lib.cut (ls s) [58]).2.1 [32]
  have h2 := (cut_len (ls s) [58]).2
  have h3 : s.size = (ls s).length := size_list s
  have h4 := map_sum_le (((fun l : List UInt8 => l.length) ∘ (fun s : List UInt8 => Lib.trimPrefix (s.drop 1) [46])) ∘ ls) (fun s : ByteArray => s.size) r fun x _ => by
    have h5 := trimP_len ((ls x).drop 1) [46]
    have h6 : x.size = (ls x).length := size_list x
    simp only [Function.comp]
    rw [List.length_drop] at h5
    omega
  omega
theorem cutL_ok {l : List UInt8} (h : (cutL l).2.2 = true) : kindL l = 4 ∧ cutL l = Lib.cut l [58] ∧ keyOk (Lib.cut l [58]).1 = true := by
  unfold cutL at h ⊢
  split
  · rename_i h4
    refine ⟨h4, rfl, ?_⟩
    have := h4
    unfold kindL at this
    split at this
    · cases this
    · split at this
      · cases this
      · split at this
        · cases this
        · split at this
          · cases this
          · split at this
            · rename_i h5; rw [Bool.and_eq_true] at h5; exact h5.2
            · cases this
  · rename_i h4; rw [if_neg h4] at h; cases h
theorem cutL_no {l : List UInt8} (h : (cutL l).2.2 = false) : kindL l ≠ 4 := fun h4 => by
  unfold cutL at h
  rw [if_pos h4] at h
  unfold kindL at h4
  split at h4
  · cases h4
  · split at h4
    · cases h4
    · split at h4
      · cases h4
      · split at h4
        · cases h4
        · split at h4
          · rename_i h5; rw [Bool.and_eq_true] at h5; rw [h] at h5; cases h5.1
          · cases h4
theorem kind3_pos {l : List UInt8} (h : kindL l = 3) : 1 ≤ l.length := by
  cases l with
  | nil => cases h
  | cons a r => simp
theorem unf_form {s : ByteArray} {r : List ByteArray} (h : kindL (ls s) ≠ 4 ∨ ∃ x ∈ r, kindL (ls x) ≠ 3) : (unfoldL ((s :: r).map ls)).2 = 2 := by
  rw [List.map_cons, unfoldL, if_pos]
  rcases h with h | ⟨x, hx, h⟩
  · exact .inl h
  · exact .inr (List.any_eq_true.2 ⟨ls x, List.mem_map.2 ⟨x, hx, rfl⟩, by rw [decide_eq_false h]; rfl⟩)
theorem unf_good {s : ByteArray} {r : List ByteArray} (h : kindL (ls s) = 4) (hr : ∀ x ∈ r, kindL (ls x) = 3) : unfoldL ((s :: r).map ls) = if 1000 < (valueL (ls s) (r.map ls)).length then (([], []), 6) else (((Lib.cut (ls s) [58]).1, valueL (ls s) (r.map ls)), 0) := by
  rw [List.map_cons, unfoldL, if_neg]
  rintro (h1 | h1)
  · exact h1 h
  · obtain ⟨x, hx, h2⟩ := List.any_eq_true.1 h1
    obtain ⟨y, hy, rfl⟩ := List.mem_map.1 hx
    rw [hr y hy] at h2
    exact absurd h2 (by decide)
theorem lcut_v (s : ByteArray) (c : List UInt8 × List UInt8 × Bool) (hc : cutL s.data.toList = c) (hs : s.size ≤ 1000000000) : ACall Tryz.prog 182 [is s] (cutA c) := by
  subst hc; exact lcut_c s hs
theorem drop_size (s : ByteArray) (n : Nat) : (s.extract n s.size).data.toList = s.data.toList.drop n := by
  rw [extract_ls, List.take_of_length_le (by rw [List.length_drop, size_list]; omega)]
theorem more_eq (s : ByteArray) : (⟨(Lib.trimPrefix (s.extract (Int.toNat 1) (s.size : Int).toNat).data.toList ({ data := #[46] } : ByteArray).data.toList).toArray⟩ : ByteArray) = moreB s := by
  rw [Int.toNat_natCast, show Int.toNat 1 = 1 from rfl, drop_size]; rfl
theorem join_v (s : ByteArray) (r : List ByteArray) (h : LinesOk (s :: r)) : ACall Tryz.prog 122 [.one (.sl .str (firstB s :: r.map moreB)), is ⟨#[10]⟩] (is (bytes (valueL (ls s) (r.map ls)))) := by
  have h1 := h.1
  have h2 := h.2
  simp only [List.length_cons, List.map_cons, List.sum_cons] at h1 h2
  have hv := value_len s r
  have := join_c (firstB s :: r.map moreB) ⟨#[10]⟩ (by simp only [List.length_cons, List.length_map]; omega) (by rw [show (⟨#[10]⟩ : ByteArray).data.toList = [10] from rfl, value_join]; omega)
  rw [show (⟨#[10]⟩ : ByteArray).data.toList = [10] from rfl, value_join] at this
  exact this
theorem check_kv (k v : List UInt8) (hk : keyOk k = true) : checkF (bytes k, bytes v) = if 1000 < v.length then 6 else 0 := by
  unfold checkF
  rw [if_pos (by rw [bytes_list]; exact hk), bytes_size]
theorem unfold_c (s0 : ByteArray) (r : List ByteArray) (hl : LinesOk (s0 :: r)) : ACall Tryz.prog 152 [.one (.sl .str (s0 :: r))] (unfA (s0 :: r)) := by
  obtain ⟨l, hl0⟩ : ∃ l, s0 :: r = l := ⟨_, rfl⟩
  rw [hl0] at hl ⊢
  have hsz : ∀ x ∈ l, x.size ≤ 100000000 := fun x hx => Nat.le_trans (sum_mem hx) hl.2
  have hll := hl.1
  have hd : l.drop 1 = r := by rw [← hl0]; rfl
  have h0 : l.getD 0 ByteArray.empty = s0 := by rw [← hl0]; rfl
  have hs0 : s0.size ≤ 100000000 := hsz _ (by rw [← hl0]; simp)
  obtain ⟨c, hc⟩ : ∃ c, cutL s0.data.toList = c := ⟨_, rfl⟩
  have hlen : l.length = r.length + 1 := by rw [← hl0]; rfl
  have hdl : (l.drop 1).length = l.length - 1 := List.length_drop
  refine acall_ofc (rs := [.cell 2 91, .tmp 3]) Tryz.func152 rfl rfl rfl teOk rfl ?_
  refine acode_seq ?_
  refine acode_region ?_
  refine acode_seq ?_
  refine acode_seq ?_
  refine acode_region ?_
  intro l1_1
  try simp only [Int.toNat_natCast, dflt_sl, dflt_st, dflt_str, dflt_int, dflt_bool] at l1_1
  refine acode_cond rfl (fun h14 => ?_) (fun h14 => ?_)
  · try simp only [decide_eq_true_eq] at h14
    try simp only [Int.toNat_natCast, dflt_sl, dflt_st, dflt_str, dflt_int, dflt_bool] at h14
    exfalso; omega
  · try simp only [decide_eq_false_iff_not] at h14
    try simp only [Int.toNat_natCast, dflt_sl, dflt_st, dflt_str, dflt_int, dflt_bool] at h14
    refine acode_skip ?_
    refine acode_seq ?_
    refine acode_region ?_
    refine And.intro (by first | omega | assumption | decide | (simp only [Int.toNat_natCast, dflt_sl, dflt_st, dflt_str, dflt_int, dflt_bool]; omega) | (simp <;> omega)) ?_
    refine Or.inl ?_
    refine And.intro (rfl) ?_
    refine Exists.intro _ (And.intro ((lcut_v (l.getD 0 ByteArray.empty) c (by rw [h0]; exact hc) (by rw [h0]; omega))) ?_)
    refine acode_seq ?_
    refine acode_seq ?_
    refine acode_region ?_
    refine acode_cond rfl (fun h26 => ?_) (fun h26 => ?_)
    · try simp only [Bool.not_eq_true'] at h26
      try simp only [Int.toNat_natCast, dflt_sl, dflt_st, dflt_str, dflt_int, dflt_bool] at h26
      refine acode_seq ?_
      refine acode_region ?_
      refine acode_ret ?_
      rw [unfA_bad (n := 2) (by rw [← hl0]; exact unf_form (.inl (cutL_no (by rw [show ls s0 = s0.data.toList from rfl, hc]; exact h26)))) (by decide)]
      rfl
    · try simp only [Bool.not_eq_false'] at h26
      try simp only [Int.toNat_natCast, dflt_sl, dflt_st, dflt_str, dflt_int, dflt_bool] at h26
      have hco : (cutL s0.data.toList).2.2 = true := by rw [hc]; exact h26
      obtain ⟨hk4, hcc, hko⟩ := cutL_ok hco
      have hcl : c = Lib.cut s0.data.toList [58] := by rw [← hc, hcc]
      refine acode_skip ?_
      refine acode_seq ?_
      refine acode_region ?_
      refine Or.inl ?_
      refine And.intro (rfl) ?_
      refine Exists.intro _ (And.intro (trimPrefix_c _ _) ?_)
      refine acode_seq ?_
      refine acode_seq ?_
      refine acode_region ?_
      refine And.intro (by first | omega | assumption | decide | (simp only [Int.toNat_natCast, dflt_sl, dflt_st, dflt_str, dflt_int, dflt_bool]; omega) | (simp <;> omega)) ?_
      intro l7_2
      try simp only [Int.toNat_natCast, dflt_sl, dflt_st, dflt_str, dflt_int, dflt_bool] at l7_2
      refine acode_block ?_
      refine acode_loopP (fun (i : Nat) => i ≤ (l.drop 1).length ∧ ∀ x ∈ (l.drop 1).take i, kindL (ls x) = 3) (fun (i : Nat) => [(2, .one (.own 0 0)), (4, is (bytes c.1)), (7, .one (.vec 1)), (33, .one (.sl .str (l.drop 1))), (34, ii .i64 (l.drop 1).length), (35, ii .i64 i)]) (fun (i : Nat) => [(0, .box 91 [.lit (.string ⟨#[]⟩), .lit (.string ⟨#[]⟩)]), (1, .vec 9 .str (firstB s0 :: ((l.drop 1).take i).map moreB))]) 2 (fun (i : Nat) => (l.drop 1).length - i) 0 (⟨Nat.zero_le _, by simp⟩) (le_of ⟨rfl, rfl, rfl, rfl, rfl, rfl⟩ ⟨rfl, (vec_eq (by rw [List.take_zero, List.map_nil, bytes_list, hcl]; rfl))⟩ rfl) ?_
      intro i hI0
      obtain ⟨hi, hall⟩ := hI0
      refine acode_seq ?_
      refine acode_region ?_
      refine acode_seq ?_
      refine acode_cond rfl (fun h36 => ?_) (fun h36 => ?_)
      · try simp only [decide_eq_true_eq] at h36
        try simp only [Int.toNat_natCast, dflt_sl, dflt_st, dflt_str, dflt_int, dflt_bool] at h36
        have hlt : i < (l.drop 1).length := by omega
        have hm := List.mem_of_mem_drop (getD_mem hlt ByteArray.empty)
        have hms := hsz _ hm
        refine acode_skip ?_
        refine acode_seq ?_
        refine acode_block ?_
        refine acode_seq ?_
        refine acode_region ?_
        refine And.intro (by first | omega | assumption | decide | (simp only [Int.toNat_natCast, dflt_sl, dflt_st, dflt_str, dflt_int, dflt_bool]; omega) | (simp <;> omega)) ?_
        refine acode_seq ?_
        refine acode_seq ?_
        refine acode_region ?_
        refine Or.inl ?_
        refine And.intro (rfl) ?_
        refine Exists.intro _ (And.intro (kind_c ((l.drop 1).getD i ByteArray.empty) (by omega)) ?_)
        refine acode_cond rfl (fun h41 => ?_) (fun h41 => ?_)
        · try simp only [decide_eq_false_iff_not, Bool.not_eq_true'] at h41
          try simp only [Int.toNat_natCast, dflt_sl, dflt_st, dflt_str, dflt_int, dflt_bool] at h41
          refine acode_seq ?_
          refine acode_region ?_
          refine acode_ret ?_
          rw [unfA_bad (n := 2) (by rw [← hl0]; exact unf_form (.inr ⟨_, by rw [← hd]; exact getD_mem hlt ByteArray.empty, h41⟩)) (by decide)]
          rfl
        · try simp only [decide_eq_true_eq, Bool.not_eq_false'] at h41
          try simp only [Int.toNat_natCast, dflt_sl, dflt_st, dflt_str, dflt_int, dflt_bool] at h41
          have h1 := kind3_pos h41
          have hz := size_list ((l.drop 1).getD i ByteArray.empty)
          refine acode_skip ?_
          refine acode_region ?_
          refine And.intro (by first | omega | assumption | decide | (simp only [Int.toNat_natCast, dflt_str]; omega) | (simp <;> omega)) ?_
          refine Or.inl ?_
          refine And.intro (rfl) ?_
          refine Exists.intro _ (And.intro (trimPrefix_c _ _) ?_)
          refine And.intro (by first | exact app_le (by first | omega | (simp only [List.length_cons, List.length_nil, List.length_map, List.length_take, List.length_drop]; omega) | (simp; omega)) (by decide) | omega | assumption | decide | (simp only [Int.toNat_natCast, dflt_sl, dflt_st, dflt_str, dflt_int, dflt_bool]; omega) | (simp <;> omega)) ?_
          refine acode_region ?_
          refine And.intro (by first | omega | assumption | decide | (simp only [Int.toNat_natCast, dflt_sl, dflt_st, dflt_str, dflt_int, dflt_bool]; omega) | (simp <;> omega)) ?_
          exact ⟨i + 1, ⟨by omega, by rw [← take_snoc ByteArray.empty hlt]; intro f hf; rcases List.mem_append.1 hf with h|h; exact hall f h; rw [List.mem_singleton.1 h]; exact h41⟩, by first | omega | (simp <;> omega), le_of ⟨rfl, rfl, rfl, rfl, rfl, (ii_eq (by omega))⟩ ⟨rfl, (vec_eq (map_next moreB ByteArray.empty hlt _ (more_eq _) [_]))⟩ rfl⟩
      · try simp only [decide_eq_false_iff_not, Int.not_lt] at h36
        try simp only [Int.toNat_natCast, dflt_sl, dflt_st, dflt_str, dflt_int, dflt_bool] at h36
        rw [List.take_of_length_le (by omega)] at hall ⊢
        rw [hd] at hall ⊢
        refine acode_exit ?_
        refine acode_seq ?_
        refine acode_region ?_
        refine Or.inl ?_
        refine And.intro (rfl) ?_
        refine Exists.intro _ (And.intro (join_v s0 r (by rw [hl0]; exact hl)) ?_)
        refine acode_seq ?_
        refine acode_seq ?_
        by_cases hv : 1000 < (valueL (ls s0) (r.map ls)).length
        · refine acode_region ?_
          refine Or.inl ?_
          refine And.intro (rfl) ?_
          refine Exists.intro _ (And.intro ((check_v (bytes c.1, bytes (valueL (ls s0) (r.map ls))) 6 (by rw [bytes_size]; have := (cut_len s0.data.toList [58]).1; rw [hcl]; rw [size_list] at hs0; omega) (by rw [check_kv _ _ (by rw [hcl]; exact hko), if_pos hv]) : ACall _ _ _ (.one (errN 6)))) ?_)
          refine acode_seq ?_
          refine acode_region ?_
          refine acode_cond rfl (fun h58 => ?_) (fun h58 => ?_)
          · skip
            refine acode_seq ?_
            refine acode_region ?_
            refine acode_ret ?_
            rw [unfA_bad (n := 6) (by rw [← hl0, unf_good hk4 hall, if_pos hv]) (by decide)]
            rfl
          · try simp only [decide_eq_true_eq, decide_eq_false_iff_not, Bool.and_eq_true, Bool.not_eq_true', Bool.not_eq_false', Bool.or_eq_false_iff, Bool.or_eq_true, Bool.and_eq_false_iff, Int.not_lt, Int.not_le] at h58
            try simp only [Int.toNat_natCast, dflt_sl, dflt_st, dflt_str, dflt_int, dflt_bool] at h58
            cases h58
        · refine acode_region ?_
          refine Or.inl ?_
          refine And.intro (rfl) ?_
          refine Exists.intro _ (And.intro ((check_v (bytes c.1, bytes (valueL (ls s0) (r.map ls))) 0 (by rw [bytes_size]; have := (cut_len s0.data.toList [58]).1; rw [hcl]; rw [size_list] at hs0; omega) (by rw [check_kv _ _ (by rw [hcl]; exact hko), if_neg hv]) : ACall _ _ _ (.one (.lit .nilIface)))) ?_)
          refine acode_seq ?_
          refine acode_region ?_
          refine acode_cond rfl (fun h58 => ?_) (fun h58 => ?_)
          · try simp only [Bool.not_eq_true'] at h58
            try simp only [Int.toNat_natCast, dflt_sl, dflt_st, dflt_str, dflt_int, dflt_bool] at h58
            cases h58
          · try simp only [Bool.not_eq_false'] at h58
            try simp only [Int.toNat_natCast, dflt_sl, dflt_st, dflt_str, dflt_int, dflt_bool] at h58
            refine acode_skip ?_
            refine acode_seq ?_
            refine acode_region ?_
            refine acode_ret ?_
            rw [unfA_ok (k := c.1) (v := valueL (ls s0) (r.map ls)) (by rw [← hl0, unf_good hk4 hall, if_neg hv, hcl])]
            rfl
end Q
end Ab
end Go.Proofs.YtklhlkhlndhepaaGreatDoor
namespace Go.Proofs.YtklhlkhlndhepaaGreatDoor
open Go.RowKit
namespace Ab
set_option maxRecDepth 100000
namespace Q
theorem unfold_e : ACall Tryz.prog 152 [.one (.sl .str [])] (unfA []) := by
  refine acall_ofc (rs := [.cell 2 91, .tmp 3]) Tryz.func152 rfl rfl rfl teOk rfl ?_
  refine acode_seq ?_
  refine acode_region ?_
  refine acode_seq ?_
  refine acode_seq ?_
  refine acode_region ?_
  intro l1_1
  try simp only [Int.toNat_natCast, dflt_sl, dflt_st, dflt_str, dflt_int, dflt_bool] at l1_1
  refine acode_cond rfl (fun h14 => ?_) (fun h14 => ?_)
  · try simp only [decide_eq_true_eq] at h14
    try simp only [Int.toNat_natCast, dflt_sl, dflt_st, dflt_str, dflt_int, dflt_bool] at h14
    refine acode_seq ?_
    refine acode_region ?_
    refine acode_ret ?_
    rfl
  · try simp only [decide_eq_false_iff_not] at h14
    try simp only [Int.toNat_natCast, dflt_sl, dflt_st, dflt_str, dflt_int, dflt_bool] at h14
    exact absurd rfl h14
theorem unfold_a (l : List ByteArray) (hl : LinesOk l) : ACall Tryz.prog 152 [.one (.sl .str l)] (unfA l) := by
  cases l with
  | nil => exact unfold_e
  | cons s r => exact unfold_c s r hl
theorem kind4_key {l : List UInt8} (h4 : kindL l = 4) : 10 ∉ l ∧ ((Lib.cut l [58]).2.2 && keyOk (Lib.cut l [58]).1) = true := by
  unfold kindL at h4
  split at h4
  · cases h4
  · rename_i h10
    refine ⟨h10, ?_⟩
    split at h4
    · cases h4
    · split at h4
      · cases h4
      · split at h4
        · cases h4
        · split at h4
          · rename_i h5; exact h5
          · cases h4
theorem unf_cases (L : List (List UInt8)) : (∃ n, (n = 2 ∨ n = 6) ∧ unfoldL L = (([], []), n)) ∨ ∃ k v, unfoldL L = ((k, v), 0) ∧ keyOk k = true ∧ v.length ≤ 1000 := by
  cases L with
  | nil => exact .inl ⟨2, .inl rfl, rfl⟩
  | cons a r =>
    rw [unfoldL]
    split
    · exact .inl ⟨2, .inl rfl, rfl⟩
    · rename_i h1
      split
      · exact .inl ⟨6, .inr rfl, rfl⟩
      · rename_i h2
        have h4 : kindL a = 4 := Classical.not_not.1 fun h => h1 (.inl h)
        have := (kind4_key h4).2
        rw [Bool.and_eq_true] at this
        exact .inr ⟨_, _, rfl, this.2, by omega⟩
theorem unfold_bad (l : List ByteArray) (hl : LinesOk l) {n : Int} (h : unfoldL (l.map ls) = (([], []), n)) (hn : n = 2 ∨ n = 6) : ACall Tryz.prog 152 [.one (.sl .str l)] (.tup [(true, [.lit (.string ⟨#[]⟩), .lit (.string ⟨#[]⟩)]), (false, [errN n])]) := by
  have := unfold_a l hl
  rw [unfA_bad (n := n) (by rw [h]) (by rcases hn with rfl | rfl <;> decide)] at this
  exact this
theorem unfold_ok (l : List ByteArray) (hl : LinesOk l) {k v : List UInt8} (h : unfoldL (l.map ls) = ((k, v), 0)) : ACall Tryz.prog 152 [.one (.sl .str l)] (.tup [(true, [.lit (.string (bytes k)), .lit (.string (bytes v))]), (false, [.lit .nilIface])]) := by
  have := unfold_a l hl
  rw [unfA_ok h] at this
  exact this
/-- Are lines those of the field that they say? -/
def plainL (l : List ByteArray) : Bool := decide ((unfoldL (l.map ls)).2 = 0) && decide (lineB (bytes (unfoldL (l.map ls)).1.1) (bytes (unfoldL (l.map ls)).1.2) = l)
theorem kind3_two {l : List UInt8} (h : kindL l = 3) : 2 ≤ l.length := by
  match l with
  | [] => cases h
  | [a] =>
    exfalso
    unfold kindL at h
    split at h
    · cases h
    · split at h
      · cases h
      · rename_i h2
        split at h
        · cases h
        · split at h
          · rename_i h4
            unfold blankL at h4
            simp at h2 h4
            rw [h4] at h2
            cases h2
          · split at h <;> cases h
  | a :: b :: r => simp
theorem valueL_snoc (s : List UInt8) (r : List (List UInt8)) (x : List UInt8) : valueL s (r ++ [x]) = valueL s r ++ ([10] ++ Lib.trimPrefix (x.drop 1) [46]) := by
  unfold valueL
  rw [List.map_append, List.map_cons, List.map_nil, ← List.cons_append, join_snoc _ _ (by simp)]
theorem trimP_yes {c : UInt8} {l : List UInt8} (h : 0 < l.length) (hc : l.getD 0 0 = c) : Lib.trimPrefix l [c] = l.drop 1 := by
  unfold Lib.trimPrefix
  rw [if_pos]
  · rfl
  · rw [hasPrefix_one]
    cases l with
    | nil => cases h
    | cons a b => simp only [List.getD_cons_zero] at hc; rw [hc]; simp
theorem trimP_no {c : UInt8} {l : List UInt8} (hc : l.getD 0 0 ≠ c ∨ l = []) : Lib.trimPrefix l [c] = l := by
  unfold Lib.trimPrefix
  rw [if_neg]
  rw [hasPrefix_one]
  cases l with
  | nil => simp
  | cons a b =>
    rcases hc with hc | hc
    · simp only [List.getD_cons_zero] at hc; simp [hc]
    · cases hc
def refUnfA (l : List ByteArray) : A := .tup [(true, [.lit (.string (bytes (unfoldL (l.map ls)).1.1)), .lit (.string (bytes (unfoldL (l.map ls)).1.2))]), (false, [.lit (.int .i64 (unfoldL (l.map ls)).2)])]
theorem refUnfA_eq {l : List ByteArray} {k v : List UInt8} {n : Int} (h : unfoldL (l.map ls) = ((k, v), n)) : refUnfA l = .tup [(true, [.lit (.string (bytes k)), .lit (.string (bytes v))]), (false, [.lit (.int .i64 n)])] := by
  unfold refUnfA; rw [h]
theorem unf_form2 {s : ByteArray} {r : List ByteArray} (h : kindL (ls s) ≠ 4 ∨ ∃ x ∈ r, kindL (ls x) ≠ 3) : unfoldL ((s :: r).map ls) = (([], []), 2) := by
  rw [List.map_cons, unfoldL, if_pos]
  rcases h with h | ⟨x, hx, h⟩
  · exact .inl h
  · exact .inr (List.any_eq_true.2 ⟨ls x, List.mem_map.2 ⟨x, hx, rfl⟩, by rw [decide_eq_false h]; rfl⟩)
theorem take_map_ls (r : List ByteArray) (i : Nat) (h : i < r.length) : (r.take (i + 1)).map ls = (r.take i).map ls ++ [ls (r.getD i ByteArray.empty)] := by
  rw [← take_snoc ByteArray.empty h, List.map_append]; rfl
theorem ext1 (s : ByteArray) : s.extract (Int.toNat 1) (s.size : Int).toNat = bytes (s.data.toList.drop 1) := by
  rw [Int.toNat_natCast, show Int.toNat 1 = 1 from rfl]
  exact ls_inj (drop_size s 1)
theorem ext1' (s : ByteArray) : s.extract (Int.toNat 1) s.size = bytes (s.data.toList.drop 1) := ext1 s
theorem refUnfold_e : ACall Tryz.prog 107 [.one (.sl .str [])] (refUnfA []) := by
  refine acall_ofc (rs := [.cell 2 91, .tmp 3]) Tryz.func107 rfl rfl rfl teOk rfl ?_
  refine acode_seq ?_
  refine acode_region ?_
  refine acode_seq ?_
  refine acode_seq ?_
  refine acode_region ?_
  intro l1_1
  try simp only [Int.toNat_natCast, dflt_sl, dflt_st, dflt_str, dflt_int, dflt_bool] at l1_1
  refine And.intro (fun h => trivial) ?_
  refine And.intro (fun h => ⟨⟨⟨h, trivial⟩, trivial⟩, by exact absurd h (by decide)⟩) ?_
  refine And.intro (fun h => ⟨⟨h, trivial⟩, trivial⟩) ?_
  refine And.intro (rfl) ?_
  refine Exists.intro _ (And.intro (fun h => ⟨⟨⟨h, trivial⟩, trivial⟩, (absurd h (by decide) : ACall _ _ _ (ii .i64 0))⟩) ?_)
  refine And.intro (fun h => ⟨⟨h, trivial⟩, trivial⟩) ?_
  refine And.intro (by first | (intro h; rw [h]; rfl) | (intro h; cases h)) ?_
  refine acode_cond rfl (fun h18 => ?_) (fun h18 => ?_)
  · try simp only [decide_eq_true_eq, decide_eq_false_iff_not, Bool.not_eq_true', Bool.or_eq_true] at h18
    try simp only [Int.toNat_natCast, dflt_sl, dflt_st, dflt_str, dflt_int, dflt_bool] at h18
    refine acode_seq ?_
    refine acode_region ?_
    refine acode_ret ?_
    rfl
  · try simp only [decide_eq_true_eq, decide_eq_false_iff_not, Bool.not_eq_false', Bool.or_eq_false_iff] at h18
    try simp only [Int.toNat_natCast, dflt_sl, dflt_st, dflt_str, dflt_int, dflt_bool] at h18
    exact absurd h18.1 (by decide)
theorem refUnfold_c (s0 : ByteArray) (r : List ByteArray) (hl : LinesOk (s0 :: r)) : ACall Tryz.prog 107 [.one (.sl .str (s0 :: r))] (refUnfA (s0 :: r)) := by
  obtain ⟨l, hl0⟩ : ∃ l, s0 :: r = l := ⟨_, rfl⟩
  rw [hl0] at hl ⊢
  have hsz : ∀ x ∈ l, x.size ≤ 100000000 := fun x hx => Nat.le_trans (sum_mem hx) hl.2
  have hll := hl.1
  have h0 : l.getD 0 ByteArray.empty = s0 := by rw [← hl0]; rfl
  have hget : ∀ i, l.getD (i + 1) ByteArray.empty = r.getD i ByteArray.empty := fun i => by rw [← hl0]; rfl
  have hs0 : s0.size ≤ 100000000 := hsz _ (by rw [← hl0]; simp)
  have hz0 := size_list s0
  have hlen : l.length = r.length + 1 := by rw [← hl0]; rfl
  obtain ⟨c, hc⟩ : ∃ c, Lib.cut s0.data.toList [58] = c := ⟨_, rfl⟩
  have hcl := (cut_len s0.data.toList [58])
  rw [hc] at hcl
  obtain ⟨v0, hv0⟩ : ∃ v, Lib.trimPrefix c.2.1 [32] = v := ⟨_, rfl⟩
  have hval0 : valueL (ls s0) ((r.take 0).map ls) = v0 := by
    unfold valueL
    rw [← hv0, ← hc]
    simp [Lib.join_one]
  have hvl : ∀ i, i ≤ r.length → (valueL (ls s0) ((r.take i).map ls)).length ≤ 300000000 := fun i hi => by
    have h1 := value_len s0 (r.take i)
    have h2 := hl.2
    rw [← hl0, List.map_cons, List.sum_cons] at h2
    have h3 : ((r.take i).map (·.size)).sum ≤ (r.map (·.size)).sum := by
      conv => rhs; rw [← List.take_append_drop i r, List.map_append, List.sum_append]
      omega
    rw [List.length_take] at h1
    omega
  refine acall_ofc (rs := [.cell 2 91, .tmp 3]) Tryz.func107 rfl rfl rfl teOk rfl ?_
  refine acode_seq ?_
  refine acode_region ?_
  refine acode_seq ?_
  refine acode_seq ?_
  refine acode_region ?_
  intro l1_1
  try simp only [Int.toNat_natCast, dflt_sl, dflt_st, dflt_str, dflt_int, dflt_bool] at l1_1
  refine And.intro (fun h => trivial) ?_
  refine And.intro (fun h => ⟨⟨⟨h, trivial⟩, trivial⟩, by (rw [hlen]; omega)⟩) ?_
  refine And.intro (fun h => ⟨⟨h, trivial⟩, trivial⟩) ?_
  refine And.intro (rfl) ?_
  refine Exists.intro _ (And.intro (fun h => ⟨⟨⟨h, trivial⟩, trivial⟩, refKind_c (l.getD 0 ByteArray.empty) (by rw [h0]; omega)⟩) ?_)
  refine And.intro (fun h => ⟨⟨h, trivial⟩, trivial⟩) ?_
  refine And.intro (by first | (intro h; rw [h]; rfl) | (intro h; cases h)) ?_
  refine acode_cond rfl (fun h18 => ?_) (fun h18 => ?_)
  · try simp only [decide_eq_true_eq, decide_eq_false_iff_not, Bool.not_eq_true', Bool.or_eq_true] at h18
    try simp only [Int.toNat_natCast, dflt_sl, dflt_st, dflt_str, dflt_int, dflt_bool] at h18
    have hk : kindL (ls s0) ≠ 4 := by rcases h18 with h | h; exfalso; omega; rw [h0] at h; exact h
    refine acode_seq ?_
    refine acode_region ?_
    refine acode_ret ?_
    rw [← hl0, refUnfA_eq (unf_form2 (.inl hk))]
    rfl
  · try simp only [decide_eq_true_eq, decide_eq_false_iff_not, Bool.not_eq_false', Bool.or_eq_false_iff] at h18
    try simp only [Int.toNat_natCast, dflt_sl, dflt_st, dflt_str, dflt_int, dflt_bool] at h18
    have hk4 : kindL (ls s0) = 4 := by have := h18.2; rw [h0] at this; exact this
    obtain ⟨h10, hkk⟩ := kind4_key hk4
    refine acode_skip ?_
    refine acode_seq ?_
    refine acode_region ?_
    refine And.intro (by omega) ?_
    refine Or.inl ?_
    refine And.intro (rfl) ?_
    refine Exists.intro _ (And.intro ((refCut_v (l.getD 0 ByteArray.empty) c (by rw [h0]; unfold refCutL; rw [if_neg h10, if_pos (by exact hkk)]; exact hc) (by rw [h0]; omega))) ?_)
    refine acode_cut (fun (u : Unit) => True) (fun (u : Unit) => [(0, .one (.sl .str l)), (2, .one (.own 0 0)), (4, is (bytes c.1)), (5, is (bytes v0))]) (fun (u : Unit) => [(0, .box 91 [.lit (.string ⟨#[]⟩), .lit (.string ⟨#[]⟩)])]) 1 ?_ ?_
    · refine acode_seq ?_
      refine acode_region ?_
      refine And.intro (fun h => trivial) ?_
      refine And.intro (fun h => ⟨⟨⟨h, trivial⟩, trivial⟩, by (have := of_decide_eq_true (by simpa [gq] using h); omega)⟩) ?_
      refine And.intro (fun h => ⟨⟨h, trivial⟩, trivial⟩) ?_
      refine And.intro (by exact fun h => h) ?_
      refine acode_cond rfl (fun h35 => ?_) (fun h35 => ?_)
      · try simp only [decide_eq_true_eq, Bool.and_eq_true] at h35
        try simp only [Int.toNat_natCast, dflt_sl, dflt_st, dflt_str, dflt_int, dflt_bool] at h35
        refine acode_region ?_
        refine And.intro (by first | omega | assumption | decide | (simp only [Int.toNat_natCast, dflt_sl, dflt_st, dflt_str, dflt_int, dflt_bool]; omega) | (simp <;> omega)) ?_
        exact ⟨(), trivial, le_of ⟨rfl, rfl, rfl, (is_eq (by rw [ext1, bytes_list, ← hv0, trimP_yes (by have := h35.1; rw [bytes_size] at this; omega) (u8_eq (b := 32) (by have := h35.2; rw [bytes_list] at this; exact this))]))⟩ rfl rfl⟩
      · try simp only [decide_eq_false_iff_not, Bool.and_eq_false_iff, Int.not_lt] at h35
        try simp only [Int.toNat_natCast, dflt_sl, dflt_st, dflt_str, dflt_int, dflt_bool] at h35
        refine acode_skip ?_
        exact ⟨(), trivial, le_of ⟨rfl, rfl, rfl, (is_eq (by rw [← hv0, trimP_no (h35.elim (fun h => .inr (List.eq_nil_of_length_eq_zero (by rw [bytes_size] at h; omega))) (fun h => .inl (fun e => h (by rw [bytes_list]; rw [show c.2.1.getD (Int.toNat 0) 0 = 32 from e]; rfl))))]))⟩ rfl rfl⟩
    · intro u hcut6
      refine acode_seq ?_
      refine acode_seq ?_
      refine acode_region ?_
      refine acode_block ?_
      refine acode_loopP (fun (i : Nat) => i ≤ r.length ∧ ∀ x ∈ r.take i, kindL (ls x) = 3) (fun (i : Nat) => [(0, .one (.sl .str l)), (2, .one (.own 0 0)), (4, is (bytes c.1)), (5, is (bytes (valueL (ls s0) ((r.take i).map ls)))), (7, ii .i64 ((i : Int) + 1))]) (fun (i : Nat) => [(0, .box 91 [.lit (.string ⟨#[]⟩), .lit (.string ⟨#[]⟩)])]) 1 (fun (i : Nat) => r.length - i) 0 (⟨Nat.zero_le _, by simp⟩) (le_of ⟨rfl, rfl, rfl, (is_eq (by rw [hval0])), rfl⟩ rfl rfl) ?_
      intro i hI0
      obtain ⟨hi, hall⟩ := hI0
      refine acode_seq ?_
      refine acode_seq ?_
      refine acode_region ?_
      intro l7_2
      try simp only [Int.toNat_natCast, dflt_sl, dflt_st, dflt_str, dflt_int, dflt_bool] at l7_2
      refine acode_cond rfl (fun h41 => ?_) (fun h41 => ?_)
      · try simp only [decide_eq_true_eq] at h41
        try simp only [Int.toNat_natCast, dflt_sl, dflt_st, dflt_str, dflt_int, dflt_bool] at h41
        have hlt : i < r.length := by omega
        have hgi : l.getD ((i : Int) + 1).toNat ByteArray.empty = r.getD i ByteArray.empty := by rw [show ((i : Int) + 1).toNat = i + 1 by omega, hget]
        have hm : r.getD i ByteArray.empty ∈ l := by rw [← hl0]; exact List.mem_cons_of_mem _ (getD_mem hlt _)
        have hms := hsz _ hm
        refine acode_skip ?_
        refine acode_seq ?_
        refine acode_block ?_
        refine acode_seq ?_
        refine acode_seq ?_
        refine acode_region ?_
        refine And.intro (by first | omega | assumption | decide | (simp only [Int.toNat_natCast, dflt_sl, dflt_st, dflt_str, dflt_int, dflt_bool]; omega) | (simp <;> omega)) ?_
        refine Or.inl ?_
        refine And.intro (rfl) ?_
        refine Exists.intro _ (And.intro (refKind_c (l.getD ((i : Int) + 1).toNat ByteArray.empty) (by rw [hgi]; omega)) ?_)
        refine acode_cond rfl (fun h49 => ?_) (fun h49 => ?_)
        · try simp only [decide_eq_false_iff_not, Bool.not_eq_true'] at h49
          try simp only [Int.toNat_natCast, dflt_sl, dflt_st, dflt_str, dflt_int, dflt_bool] at h49
          rw [hgi] at h49
          refine acode_seq ?_
          refine acode_region ?_
          refine acode_ret ?_
          rw [← hl0, refUnfA_eq (unf_form2 (.inr ⟨_, getD_mem hlt ByteArray.empty, h49⟩))]
          rfl
        · try simp only [decide_eq_true_eq, Bool.not_eq_false'] at h49
          try simp only [Int.toNat_natCast, dflt_sl, dflt_st, dflt_str, dflt_int, dflt_bool] at h49
          rw [hgi] at h49
          have h2 := kind3_two h49
          have hz := size_list (r.getD i ByteArray.empty)
          have hgs : (l.getD ((i : Int) + 1).toNat Rd.str.dflt).size = (r.getD i ByteArray.empty).size := congrArg ByteArray.size hgi
          refine acode_skip ?_
          refine acode_seq ?_
          refine acode_region ?_
          refine And.intro (by first | omega | assumption | decide | (simp only [Int.toNat_natCast, dflt_sl, dflt_st, dflt_str, dflt_int, dflt_bool]; omega) | (simp <;> omega)) ?_
          refine And.intro (by first | omega | assumption | decide | (simp only [Int.toNat_natCast, dflt_sl, dflt_st, dflt_str, dflt_int, dflt_bool]; omega) | (simp <;> omega)) ?_
          refine acode_cut (fun (u : Unit) => True) (fun (u : Unit) => [(0, .one (.sl .str l)), (2, .one (.own 0 0)), (4, is (bytes c.1)), (5, is (bytes (valueL (ls s0) ((r.take i).map ls)))), (7, ii .i64 ((i : Int) + 1)), (8, is (bytes (Lib.trimPrefix ((ls (r.getD i ByteArray.empty)).drop 1) [46])))]) (fun (u : Unit) => [(0, .box 91 [.lit (.string ⟨#[]⟩), .lit (.string ⟨#[]⟩)])]) 1 ?_ ?_
          · refine acode_seq ?_
            refine acode_region ?_
            refine And.intro (by (rw [show l.getD ((i : Int) + 1).toNat Rd.str.dflt = r.getD i ByteArray.empty from hgi, ext1, bytes_size, List.length_drop]; omega)) ?_
            refine acode_cond rfl (fun h58 => ?_) (fun h58 => ?_)
            · try simp only [decide_eq_true_eq] at h58
              try simp only [Int.toNat_natCast, dflt_str] at h58
              refine acode_region ?_
              refine And.intro (by (rw [show l.getD ((i : Int) + 1).toNat Rd.str.dflt = r.getD i ByteArray.empty from hgi, ext1, bytes_size, List.length_drop]; omega)) ?_
              exact ⟨(), trivial, le_of ⟨rfl, rfl, rfl, rfl, rfl, (is_eq (by rw [show l.getD ((i : Int) + 1).toNat Rd.str.dflt = r.getD i ByteArray.empty from hgi, ext1, ext1, bytes_list, trimP_yes (by rw [List.length_drop]; exact Nat.sub_pos_of_lt h2) (u8_eq (b := 46) (by rw [hgi, ext1', bytes_list] at h58; exact h58))]))⟩ rfl rfl⟩
            · try simp only [decide_eq_false_iff_not] at h58
              try simp only [Int.toNat_natCast, dflt_str] at h58
              refine acode_skip ?_
              exact ⟨(), trivial, le_of ⟨rfl, rfl, rfl, rfl, rfl, (is_eq (by rw [show l.getD ((i : Int) + 1).toNat Rd.str.dflt = r.getD i ByteArray.empty from hgi, ext1, trimP_no (.inl (fun e => h58 (by rw [hgi, ext1', bytes_list, show (List.drop 1 (r.getD i ByteArray.empty).data.toList).getD (Int.toNat 0) 0 = 46 from e]; rfl)))]))⟩ rfl rfl⟩
          · intro u hcut14
            have hvb : (bytes (valueL (ls s0) ((r.take i).map ls))).size ≤ 300000000 := by rw [bytes_size]; exact hvl i hi
            have htb : (bytes (Lib.trimPrefix ((ls (r.getD i ByteArray.empty)).drop 1) [46])).size ≤ 100000000 := by rw [bytes_size]; have h1 := trimP_len ((ls (r.getD i ByteArray.empty)).drop 1) [46]; have h3 : (ls (r.getD i ByteArray.empty)).length = (r.getD i ByteArray.empty).size := (size_list _).symm; rw [List.length_drop] at h1; omega
            have hk10 : ByteArray.size ⟨#[10]⟩ = 1 := rfl
            refine acode_region ?_
            refine And.intro (by (have hk0 : ByteArray.size { data := #[10] } = 1 := rfl; first | (unfold maxLen; omega) | (simp only [ByteArray.size_append]; omega) | (unfold maxLen; (try simp only [ByteArray.size_append]); omega))) ?_
            refine And.intro (by (have hk0 : ByteArray.size { data := #[10] } = 1 := rfl; first | (unfold maxLen; omega) | (simp only [ByteArray.size_append]; omega) | (unfold maxLen; (try simp only [ByteArray.size_append]); omega))) ?_
            refine acode_region ?_
            refine And.intro (by first | omega | assumption | decide | (simp only [Int.toNat_natCast, dflt_sl, dflt_st, dflt_str, dflt_int, dflt_bool]; omega) | (simp <;> omega)) ?_
            exact ⟨i + 1, ⟨by omega, by rw [← take_snoc ByteArray.empty hlt]; intro f hf; rcases List.mem_append.1 hf with h|h; exact hall f h; rw [List.mem_singleton.1 h]; exact h49⟩, by first | omega | (simp <;> omega), le_of ⟨rfl, rfl, rfl, (is_eq (by rw [take_map_ls r i hlt, valueL_snoc, bytes_app, bytes_app, ByteArray.append_assoc]; rfl)), (ii_eq (by omega))⟩ rfl rfl⟩
      · try simp only [decide_eq_false_iff_not, Int.not_lt] at h41
        try simp only [Int.toNat_natCast, dflt_sl, dflt_st, dflt_str, dflt_int, dflt_bool] at h41
        rw [List.take_of_length_le (by omega)] at hall ⊢
        have hvr := hvl r.length (Nat.le_refl _)
        refine acode_exit ?_
        refine acode_seq ?_
        refine acode_seq ?_
        refine acode_region ?_
        refine acode_cond rfl (fun h67 => ?_) (fun h67 => ?_)
        · try simp only [decide_eq_true_eq] at h67
          try simp only [Int.toNat_natCast, dflt_sl, dflt_st, dflt_str, dflt_int, dflt_bool] at h67
          refine acode_seq ?_
          refine acode_region ?_
          refine acode_ret ?_
          rw [← hl0, refUnfA_eq (by rw [unf_good hk4 hall, if_pos (by rw [bytes_size] at h67; omega)])]
          rfl
        · try simp only [decide_eq_false_iff_not, Int.not_lt] at h67
          try simp only [Int.toNat_natCast, dflt_sl, dflt_st, dflt_str, dflt_int, dflt_bool] at h67
          refine acode_skip ?_
          refine acode_seq ?_
          refine acode_region ?_
          refine acode_ret ?_
          rw [← hl0, refUnfA_eq (by rw [unf_good hk4 hall, if_neg (by rw [bytes_size] at h67; omega), show Lib.cut (ls s0) [58] = c from hc])]
          rfl
end Q
end Ab
end Go.Proofs.YtklhlkhlndhepaaGreatDoor
namespace Go.Proofs.YtklhlkhlndhepaaGreatDoor
open Go.RowKit
namespace Ab
set_option maxRecDepth 100000
abbrev Itm := Int × ByteArray × List Fld
abbrev rItm : Rd Itm := .st (.int .i64) (.st .str (.sl rFld))
abbrev Lne := Int × Int × ByteArray × Bool
abbrev rLne : Rd Lne := .st (.int .i64) (.st (.int .i64) (.st .str .bool))
namespace Q
/-- What a parser holds: the lines of the field that is under way, the line at which it begins, whether it is one too many; the items; the block's lines and its fields; how many stanzas there were. -/
structure PSt where
  lns : List ByteArray
  frm : Int
  full : Bool
  its : List Itm
  blk : List ByteArray
  flds : List Fld
  recs : Int
def flushS (p : PSt) : (Int × Int) ⊕ PSt :=
  if p.lns = [] then .inr p
  else if (unfoldL (p.lns.map ls)).2 ≠ 0 then .inl (p.frm, (unfoldL (p.lns.map ls)).2)
  else if p.full = true then .inl (p.frm, 11)
  else .inr { p with flds := p.flds ++ [(bytes (unfoldL (p.lns.map ls)).1.1, bytes (unfoldL (p.lns.map ls)).1.2)], lns := [] }
def rawB (blk : List ByteArray) : ByteArray := bytes (Lib.join (blk.map (·.data.toList)) [10]) ++ ⟨#[10]⟩
def closeS (q : PSt) : PSt :=
  if q.blk = [] then { q with blk := [], flds := [] }
  else { q with its := q.its ++ [((if q.flds = [] then 2 else 3 : Int), rawB q.blk, q.flds)], recs := if q.flds = [] then q.recs else q.recs + 1, blk := [], flds := [] }
def endS (p : PSt) : (Int × Int) ⊕ PSt := match flushS p with
  | .inl e => .inl e
  | .inr q => .inr (closeS q)
def beginS (p : PSt) (l : Lne) : PSt := { p with lns := [l.2.2.1], frm := l.1, full := decide ((p.flds.length : Int) = 40) || (decide ((p.flds.length : Int) = 0) && decide (p.recs = 400)) }
def aheadS (p : PSt) (l : Lne) (kind : Int) : (Int × Int) ⊕ PSt :=
  if kind = 3 then
    if p.lns = [] then .inl (l.1, 2)
    else if l.2.2.2 = true then .inr { p with lns := p.lns ++ [l.2.2.1] }
    else flushS { p with lns := p.lns ++ [l.2.2.1] }
  else if kind = 1 then endS p
  else flushS p
def lineS (q : PSt) (l : Lne) (kind : Int) : (Int × Int) ⊕ PSt :=
  if kind = 5 ∨ l.2.2.2 = false then .inl (l.1, 2)
  else if kind = 1 then .inr { q with its := q.its ++ [(1, l.2.2.1 ++ ⟨#[10]⟩, [])] }
  else if kind = 4 then .inr { beginS q l with blk := q.blk ++ [l.2.2.1] }
  else .inr { q with blk := q.blk ++ [l.2.2.1] }
def takeS (p : PSt) (l : Lne) : (Int × Int) ⊕ PSt := match aheadS p l (kindL (ls l.2.2.1)) with
  | .inl e => .inl e
  | .inr q => lineS q l (kindL (ls l.2.2.1))
/-- How much a parser holds, at most. -/
structure PB (p : PSt) (B : Nat) : Prop where
  lns : p.lns.length ≤ B
  lnb : (p.lns.map (·.size)).sum ≤ B
  its : p.its.length ≤ B
  blk : p.blk.length ≤ B
  blb : (p.blk.map (·.size)).sum ≤ B
  flds : p.flds.length ≤ B
  rec0 : 0 ≤ p.recs
  recB : p.recs ≤ B
theorem PB.mono {p : PSt} {B B' : Nat} (h : PB p B) (hB : B ≤ B') : PB p B' :=
  ⟨by have := h.lns; omega, by have := h.lnb; omega, by have := h.its; omega, by have := h.blk; omega, by have := h.blb; omega, by have := h.flds; omega, h.rec0, by have := h.recB; omega⟩
theorem flushS_B {p q : PSt} {B : Nat} (h : PB p B) (hf : flushS p = .inr q) : PB q (B + 1) := by
  unfold flushS at hf
  split at hf
  · cases hf; exact h.mono (by omega)
  · split at hf
    · cases hf
    · split at hf
      · cases hf
      · cases hf
        have := h.flds
        exact ⟨by simp, by simp, by have := h.its; simp only; omega, by have := h.blk; simp only; omega, by have := h.blb; simp only; omega, by simp; omega, h.rec0, by have := h.recB; simp only; omega⟩
theorem closeS_B {p : PSt} {B : Nat} (h : PB p B) : PB (closeS p) (B + 1) := by
  have h1 := h.lns
  have h2 := h.lnb
  have h3 := h.its
  have h4 := h.rec0
  have h5 := h.recB
  unfold closeS
  split
  · exact ⟨by simp only; omega, by simp only; omega, by simp only; omega, by simp, by simp, by simp, h4, by simp only; omega⟩
  · refine ⟨by simp only; omega, by simp only; omega, by simp; omega, by simp, by simp, by simp, ?_, ?_⟩
    · simp only; split <;> omega
    · simp only; split <;> omega
theorem endS_B {p q : PSt} {B : Nat} (h : PB p B) (hf : endS p = .inr q) : PB q (B + 2) := by
  unfold endS at hf
  split at hf
  · cases hf
  · rename_i r e
    cases hf
    exact closeS_B (flushS_B h e)
theorem more_B {p : PSt} {B : Nat} (s : ByteArray) (h : PB p B) : PB { p with lns := p.lns ++ [s] } (B + 1 + s.size) := by
  have h1 := h.lns
  have h2 := h.lnb
  have h3 := h.its
  have h5 := h.recB
  have h6 := h.blk
  have h7 := h.blb
  have h8 := h.flds
  exact ⟨by simp; omega, by simp; omega, by simp only; omega, by simp only; omega, by simp only; omega, by simp only; omega, h.rec0, by simp only; omega⟩
theorem aheadS_B {p q : PSt} {B : Nat} {l : Lne} {k : Int} (h : PB p B) (hf : aheadS p l k = .inr q) : PB q (B + 2 + l.2.2.1.size) := by
  unfold aheadS at hf
  split at hf
  · split at hf
    · cases hf
    · split at hf
      · cases hf; exact (more_B _ h).mono (by omega)
      · exact (flushS_B (more_B _ h) hf).mono (by omega)
  · split at hf
    · exact (endS_B h hf).mono (by omega)
    · exact (flushS_B h hf).mono (by omega)
theorem lineS_B {p q : PSt} {B : Nat} {l : Lne} {k : Int} (h : PB p B) (hs : l.2.2.1.size ≤ B) (_hB : 1 ≤ B) (hf : lineS p l k = .inr q) : PB q (B + 1 + l.2.2.1.size) := by
  have h1 := h.lns
  have h2 := h.lnb
  have h3 := h.its
  have h5 := h.recB
  have h6 := h.blk
  have h7 := h.blb
  have h8 := h.flds
  unfold lineS at hf
  split at hf
  · cases hf
  · split at hf
    · cases hf
      exact ⟨by simp only; omega, by simp only; omega, by simp; omega, by simp only; omega, by simp only; omega, by simp only; omega, h.rec0, by simp only; omega⟩
    · split at hf
      · cases hf
        exact ⟨by simp [beginS]; omega, by simp [beginS], by simp only [beginS]; omega, by simp; omega, by simp; omega, by simp only [beginS]; omega, h.rec0, by simp only [beginS]; omega⟩
      · cases hf
        exact ⟨by simp only; omega, by simp only; omega, by simp only; omega, by simp; omega, by simp; omega, by simp only; omega, h.rec0, by simp only; omega⟩
theorem takeS_B {p q : PSt} {B : Nat} {l : Lne} (h : PB p B) (hf : takeS p l = .inr q) : PB q (B + 3 + 2 * l.2.2.1.size) := by
  unfold takeS at hf
  split at hf
  · cases hf
  · rename_i r e
    exact (lineS_B (aheadS_B h e) (by omega) (by omega) hf).mono (by omega)
def pst0 : PSt := ⟨[], 0, false, [], [], [], 0⟩
end Q
end Ab
end Go.Proofs.YtklhlkhlndhepaaGreatDoor
namespace Go.Proofs.YtklhlkhlndhepaaGreatDoor
open Go.RowKit
namespace Ab
set_option maxRecDepth 100000
namespace Q
theorem fault_c (at_ n : Int) : ACall Tryz.prog 119 [ii .i64 at_, .one (errN n)] (.one (errF at_ n)) := by
  refine acall_of (rs := [4]) Tryz.func119 rfl rfl rfl teOk rfl ?_
  refine acode_seq ?_
  refine acode_region ?_
  refine acode_seq ?_
  refine acode_region ?_
  refine acode_ret ?_
  rfl
def psO (p : PSt) : Obs := [(0, .box 141 [.vec 1, .lit (.int .i64 p.frm), .lit (.bool p.full), .vec 2, .vec 3, .vec 4, .lit (.int .i64 p.recs)]), (1, .vec 9 .str p.lns), (2, .vec 73 rItm p.its), (3, .vec 9 .str p.blk), (4, .vec 91 rFld p.flds)]
theorem flush_nil (p : PSt) (h : p.lns = []) : ACallO Tryz.prog 121 [.one (.own 0 0)] (psO p) 5 (.one (.lit .nilIface)) (psO p) 5 := by
  refine acallo_of (rs := [2]) Tryz.func121 rfl rfl rfl teOk (by decide) rfl ?_
  refine acode_seq ?_
  refine acode_region ?_
  refine acode_seq ?_
  refine acode_seq ?_
  refine acode_region ?_
  intro l1_5
  try simp only [Int.toNat_natCast, dflt_sl, dflt_st, dflt_str, dflt_int, dflt_bool] at l1_5
  refine acode_cond rfl (fun h11 => ?_) (fun h11 => ?_)
  · try simp only [decide_eq_true_eq] at h11
    try simp only [Int.toNat_natCast, dflt_sl, dflt_st, dflt_str, dflt_int, dflt_bool] at h11
    refine acode_seq ?_
    refine acode_region ?_
    refine acode_ret ?_
    exact ⟨rfl, ⟨rfl, rfl, rfl, rfl, rfl⟩, rfl⟩
  · try simp only [decide_eq_false_iff_not] at h11
    try simp only [Int.toNat_natCast, dflt_sl, dflt_st, dflt_str, dflt_int, dflt_bool] at h11
    exact absurd (by rw [h]; rfl) h11
theorem flush_good (p : PSt) {k v : List UInt8} (h0 : p.lns ≠ []) (hu : unfoldL (p.lns.map ls) = ((k, v), 0)) (hf : p.full = false) (hb : PB p 1000000) : ACallO Tryz.prog 121 [.one (.own 0 0)] (psO p) 5 (.one (.lit .nilIface)) (psO { p with flds := p.flds ++ [(bytes k, bytes v)], lns := [] }) 5 := by
  have hfl := hb.flds
  refine acallo_of (rs := [2]) Tryz.func121 rfl rfl rfl teOk (by decide) rfl ?_
  refine acode_seq ?_
  refine acode_region ?_
  refine acode_seq ?_
  refine acode_seq ?_
  refine acode_region ?_
  intro l1_5
  try simp only [Int.toNat_natCast, dflt_sl, dflt_st, dflt_str, dflt_int, dflt_bool] at l1_5
  refine acode_cond rfl (fun h11 => ?_) (fun h11 => ?_)
  · try simp only [decide_eq_true_eq] at h11
    try simp only [Int.toNat_natCast, dflt_sl, dflt_st, dflt_str, dflt_int, dflt_bool] at h11
    exact absurd (List.eq_nil_of_length_eq_zero (by omega)) h0
  · try simp only [decide_eq_false_iff_not] at h11
    try simp only [Int.toNat_natCast, dflt_sl, dflt_st, dflt_str, dflt_int, dflt_bool] at h11
    refine acode_skip ?_
    refine acode_seq ?_
    refine acode_renew 1 rfl ?_
    refine acode_region ?_
    refine Or.inl ?_
    refine And.intro (rfl) ?_
    refine Exists.intro _ (And.intro (unfold_ok p.lns ⟨hb.lns, Nat.le_trans hb.lnb (by decide)⟩ hu) ?_)
    refine acode_seq ?_
    refine acode_block ?_
    refine acode_seq ?_
    refine acode_region ?_
    refine acode_cond rfl (fun h21 => ?_) (fun h21 => ?_)
    · try simp only [Bool.not_eq_true'] at h21
      try simp only [Int.toNat_natCast, dflt_sl, dflt_st, dflt_str, dflt_int, dflt_bool] at h21
      cases h21
    · try simp only [Bool.not_eq_false'] at h21
      try simp only [Int.toNat_natCast, dflt_sl, dflt_st, dflt_str, dflt_int, dflt_bool] at h21
      refine acode_seq ?_
      refine acode_region ?_
      refine acode_cond rfl (fun h31 => ?_) (fun h31 => ?_)
      · try simp only [decide_eq_true_eq, decide_eq_false_iff_not, Bool.and_eq_true, Bool.not_eq_true', Bool.not_eq_false', Bool.or_eq_false_iff, Bool.or_eq_true, Bool.and_eq_false_iff, Int.not_lt, Int.not_le] at h31
        try simp only [Int.toNat_natCast, dflt_sl, dflt_st, dflt_str, dflt_int, dflt_bool] at h31
        exact absurd h31 (by rw [hf]; decide)
      · try simp only [decide_eq_true_eq, decide_eq_false_iff_not, Bool.and_eq_true, Bool.not_eq_true', Bool.not_eq_false', Bool.or_eq_false_iff, Bool.or_eq_true, Bool.and_eq_false_iff, Int.not_lt, Int.not_le] at h31
        try simp only [Int.toNat_natCast, dflt_sl, dflt_st, dflt_str, dflt_int, dflt_bool] at h31
        refine acode_skip ?_
        refine acode_seq ?_
        refine acode_ord rfl ?_
        refine aord_light 0 rfl rfl rfl (by kernel_rfl) ?_
        refine aord_light 1 rfl rfl rfl (by kernel_rfl) ?_
        refine aord_light 2 rfl rfl rfl (by kernel_rfl) ?_
        refine aord_light 3 rfl rfl rfl (by kernel_rfl) ?_
        refine aord_light 4 rfl rfl rfl (by kernel_rfl) ?_
        refine aord_all [5, 6] (by kernel_rfl) rfl ?_
        refine And.intro ?_ ?_
        · refine aord_all [6] (by kernel_rfl) rfl ?_
          refine aord_all [7] (by kernel_rfl) rfl ?_
          refine aord_all [8] (by kernel_rfl) rfl ?_
          refine And.intro (by first | exact app_le (by first | omega | (simp only [List.length_cons, List.length_nil]; omega) | (simp; omega)) (by decide) | omega | assumption | decide | (simp only [Int.toNat_natCast, dflt_sl, dflt_st, dflt_str, dflt_int, dflt_bool]; omega) | (simp <;> omega)) ?_
          refine aord_light 9 rfl rfl rfl (by kernel_rfl) ?_
          refine aord_light 10 rfl rfl rfl (by kernel_rfl) ?_
          refine aord_all [11] (by kernel_rfl) rfl ?_
          refine aord_light 12 rfl rfl rfl (by kernel_rfl) ?_
          refine aord_light 13 rfl rfl rfl (by kernel_rfl) ?_
          refine aord_light 14 rfl rfl rfl (by kernel_rfl) ?_
          refine aord_all [15] (by kernel_rfl) rfl ?_
          refine aord_done (by kernel_rfl) ?_
          refine acode_seq ?_
          refine acode_nilcell 0 0 9 .str rfl rfl rfl ?_
          refine acode_swap 1 7 rfl rfl ?_
          refine acode_region ?_
          refine acode_ret ?_
          exact ⟨rfl, ⟨rfl, rfl, rfl, rfl, rfl⟩, rfl⟩
        · refine aord_all [5, 7] (by kernel_rfl) rfl ?_
          refine And.intro ?_ ?_
          · refine aord_all [7] (by kernel_rfl) rfl ?_
            refine aord_all [8] (by kernel_rfl) rfl ?_
            refine And.intro (by first | exact app_le (by first | omega | (simp only [List.length_cons, List.length_nil]; omega) | (simp; omega)) (by decide) | omega | assumption | decide | (simp only [Int.toNat_natCast, dflt_sl, dflt_st, dflt_str, dflt_int, dflt_bool]; omega) | (simp <;> omega)) ?_
            refine aord_light 9 rfl rfl rfl (by kernel_rfl) ?_
            refine aord_light 10 rfl rfl rfl (by kernel_rfl) ?_
            refine aord_all [11] (by kernel_rfl) rfl ?_
            refine aord_light 12 rfl rfl rfl (by kernel_rfl) ?_
            refine aord_light 13 rfl rfl rfl (by kernel_rfl) ?_
            refine aord_light 14 rfl rfl rfl (by kernel_rfl) ?_
            refine aord_all [15] (by kernel_rfl) rfl ?_
            refine aord_done (by kernel_rfl) ?_
            refine acode_seq ?_
            refine acode_nilcell 0 0 9 .str rfl rfl rfl ?_
            refine acode_swap 1 7 rfl rfl ?_
            refine acode_region ?_
            refine acode_ret ?_
            exact ⟨rfl, ⟨rfl, rfl, rfl, rfl, rfl⟩, rfl⟩
          · refine aord_all [5] (by kernel_rfl) rfl ?_
            refine aord_all [8] (by kernel_rfl) rfl ?_
            refine And.intro (by first | exact app_le (by first | omega | (simp only [List.length_cons, List.length_nil]; omega) | (simp; omega)) (by decide) | omega | assumption | decide | (simp only [Int.toNat_natCast, dflt_sl, dflt_st, dflt_str, dflt_int, dflt_bool]; omega) | (simp <;> omega)) ?_
            refine aord_light 9 rfl rfl rfl (by kernel_rfl) ?_
            refine aord_light 10 rfl rfl rfl (by kernel_rfl) ?_
            refine aord_all [11] (by kernel_rfl) rfl ?_
            refine aord_light 12 rfl rfl rfl (by kernel_rfl) ?_
            refine aord_light 13 rfl rfl rfl (by kernel_rfl) ?_
            refine aord_light 14 rfl rfl rfl (by kernel_rfl) ?_
            refine aord_all [15] (by kernel_rfl) rfl ?_
            refine aord_done (by kernel_rfl) ?_
            refine acode_seq ?_
            refine acode_nilcell 0 0 9 .str rfl rfl rfl ?_
            refine acode_swap 1 7 rfl rfl ?_
            refine acode_region ?_
            refine acode_ret ?_
            exact ⟨rfl, ⟨rfl, rfl, rfl, rfl, rfl⟩, rfl⟩
theorem flush_bad (p : PSt) {n : Int} (h0 : p.lns ≠ []) (hu : unfoldL (p.lns.map ls) = (([], []), n)) (hn : n = 2 ∨ n = 6) (hb : PB p 1000000) : ACallO Tryz.prog 121 [.one (.own 0 0)] (psO p) 5 (.one (errF p.frm n)) [] 5 := by
  refine acallo_of (rs := [2]) Tryz.func121 rfl rfl rfl teOk (by decide) rfl ?_
  refine acode_seq ?_
  refine acode_region ?_
  refine acode_seq ?_
  refine acode_seq ?_
  refine acode_region ?_
  intro l1_5
  try simp only [Int.toNat_natCast, dflt_sl, dflt_st, dflt_str, dflt_int, dflt_bool] at l1_5
  refine acode_cond rfl (fun h11 => ?_) (fun h11 => ?_)
  · try simp only [decide_eq_true_eq] at h11
    try simp only [Int.toNat_natCast, dflt_sl, dflt_st, dflt_str, dflt_int, dflt_bool] at h11
    exact absurd (List.eq_nil_of_length_eq_zero (by omega)) h0
  · try simp only [decide_eq_false_iff_not] at h11
    try simp only [Int.toNat_natCast, dflt_sl, dflt_st, dflt_str, dflt_int, dflt_bool] at h11
    refine acode_skip ?_
    refine acode_seq ?_
    refine acode_renew 1 rfl ?_
    refine acode_region ?_
    refine Or.inl ?_
    refine And.intro (rfl) ?_
    refine Exists.intro _ (And.intro (unfold_bad p.lns ⟨hb.lns, Nat.le_trans hb.lnb (by decide)⟩ hu hn) ?_)
    refine acode_seq ?_
    refine acode_block ?_
    refine acode_seq ?_
    refine acode_region ?_
    refine acode_cond rfl (fun h21 => ?_) (fun h21 => ?_)
    · skip
      refine acode_seq ?_
      refine acode_region ?_
      refine Or.inl ?_
      refine And.intro (rfl) ?_
      refine Exists.intro _ (And.intro (fault_c p.frm n) ?_)
      refine acode_ret ?_
      exact ⟨rfl, trivial, rfl⟩
    · try simp only [decide_eq_true_eq, decide_eq_false_iff_not, Bool.and_eq_true, Bool.not_eq_true', Bool.not_eq_false', Bool.or_eq_false_iff, Bool.or_eq_true, Bool.and_eq_false_iff, Int.not_lt, Int.not_le] at h21
      try simp only [Int.toNat_natCast, dflt_sl, dflt_st, dflt_str, dflt_int, dflt_bool] at h21
      cases h21
theorem flush_full (p : PSt) {k v : List UInt8} (h0 : p.lns ≠ []) (hu : unfoldL (p.lns.map ls) = ((k, v), 0)) (hf : p.full = true) (hb : PB p 1000000) : ACallO Tryz.prog 121 [.one (.own 0 0)] (psO p) 5 (.one (errF p.frm 11)) [] 5 := by
  refine acallo_of (rs := [2]) Tryz.func121 rfl rfl rfl teOk (by decide) rfl ?_
  refine acode_seq ?_
  refine acode_region ?_
  refine acode_seq ?_
  refine acode_seq ?_
  refine acode_region ?_
  intro l1_5
  try simp only [Int.toNat_natCast, dflt_sl, dflt_st, dflt_str, dflt_int, dflt_bool] at l1_5
  refine acode_cond rfl (fun h11 => ?_) (fun h11 => ?_)
  · try simp only [decide_eq_true_eq] at h11
    try simp only [Int.toNat_natCast, dflt_sl, dflt_st, dflt_str, dflt_int, dflt_bool] at h11
    exact absurd (List.eq_nil_of_length_eq_zero (by omega)) h0
  · try simp only [decide_eq_false_iff_not] at h11
    try simp only [Int.toNat_natCast, dflt_sl, dflt_st, dflt_str, dflt_int, dflt_bool] at h11
    refine acode_skip ?_
    refine acode_seq ?_
    refine acode_renew 1 rfl ?_
    refine acode_region ?_
    refine Or.inl ?_
    refine And.intro (rfl) ?_
    refine Exists.intro _ (And.intro (unfold_ok p.lns ⟨hb.lns, Nat.le_trans hb.lnb (by decide)⟩ hu) ?_)
    refine acode_seq ?_
    refine acode_block ?_
    refine acode_seq ?_
    refine acode_region ?_
    refine acode_cond rfl (fun h21 => ?_) (fun h21 => ?_)
    · try simp only [Bool.not_eq_true'] at h21
      try simp only [Int.toNat_natCast, dflt_sl, dflt_st, dflt_str, dflt_int, dflt_bool] at h21
      cases h21
    · try simp only [Bool.not_eq_false'] at h21
      try simp only [Int.toNat_natCast, dflt_sl, dflt_st, dflt_str, dflt_int, dflt_bool] at h21
      refine acode_seq ?_
      refine acode_region ?_
      refine acode_cond rfl (fun h31 => ?_) (fun h31 => ?_)
      · try simp only [decide_eq_true_eq, decide_eq_false_iff_not, Bool.and_eq_true, Bool.not_eq_true', Bool.not_eq_false', Bool.or_eq_false_iff, Bool.or_eq_true, Bool.and_eq_false_iff, Int.not_lt, Int.not_le] at h31
        try simp only [Int.toNat_natCast, dflt_sl, dflt_st, dflt_str, dflt_int, dflt_bool] at h31
        refine acode_seq ?_
        refine acode_region ?_
        refine Or.inl ?_
        refine And.intro (rfl) ?_
        refine Exists.intro _ (And.intro (fault_c p.frm 11) ?_)
        refine acode_ret ?_
        exact ⟨rfl, trivial, rfl⟩
      · try simp only [decide_eq_true_eq, decide_eq_false_iff_not, Bool.and_eq_true, Bool.not_eq_true', Bool.not_eq_false', Bool.or_eq_false_iff, Bool.or_eq_true, Bool.and_eq_false_iff, Int.not_lt, Int.not_le] at h31
        try simp only [Int.toNat_natCast, dflt_sl, dflt_st, dflt_str, dflt_int, dflt_bool] at h31
        exact absurd h31 (by rw [hf]; decide)
theorem flush_ok {p q : PSt} (h : flushS p = .inr q) (hb : PB p 1000000) : ACallO Tryz.prog 121 [.one (.own 0 0)] (psO p) 5 (.one (.lit .nilIface)) (psO q) 5 := by
  unfold flushS at h
  split at h
  · rename_i h0; cases h; exact flush_nil p h0
  · rename_i h0
    rcases unf_cases (p.lns.map ls) with ⟨n, hn, hu⟩ | ⟨k, v, hu, _, _⟩
    · rw [hu, if_pos (by rcases hn with rfl | rfl <;> decide)] at h; cases h
    · rw [hu, if_neg (by simp)] at h
      split at h
      · cases h
      · rename_i hf; cases h; exact flush_good p h0 hu (by simpa using hf) hb
theorem flush_err {p : PSt} {at_ n : Int} (h : flushS p = .inl (at_, n)) (hb : PB p 1000000) : ACallO Tryz.prog 121 [.one (.own 0 0)] (psO p) 5 (.one (errF at_ n)) [] 5 := by
  unfold flushS at h
  split at h
  · cases h
  · rename_i h0
    rcases unf_cases (p.lns.map ls) with ⟨m, hn, hu⟩ | ⟨k, v, hu, _, _⟩
    · rw [hu, if_pos (by rcases hn with rfl | rfl <;> decide)] at h; cases h; exact flush_bad p h0 hu hn hb
    · rw [hu, if_neg (by simp)] at h
      split at h
      · rename_i hf; cases h; exact flush_full p h0 hu hf hb
      · cases h
end Q
end Ab
end Go.Proofs.YtklhlkhlndhepaaGreatDoor
