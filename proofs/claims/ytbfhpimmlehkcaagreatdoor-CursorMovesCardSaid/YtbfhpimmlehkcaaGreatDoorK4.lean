/-
  The texts of this proof, joined: abstract values, the library, the functions of the program and what they compute (part 4). No condition.
-/
import Derived.Test.YtbfhpimmlehkcaaGreatDoorRows
import Derived.Lib.Strings
import Derived.Lib.Slices
import Derived.Lib.Walk
import Derived.Lib.Builder
import Derived.Lib.AppendStr
import Derived.Lib.OthersKept
import Derived.WalkKit
import Derived.Laws.Externs
import Derived.Laws.IdiomCopy
import Derived.Lib.UnsafeStr
import Derived.Shelf.RegionOpenPlain
import Derived.Shelf.Strings.Builder1
import Derived.Shelf.Strings.Builder2
import Derived.Shelf.Strings.OnBuilder
import Derived.Shelf.Strings.Trim
import Derived.Shelf.Small.Utf8
import Derived.Shelf.Small.Strs
import Derived.Shelf.Strings.BuilderF
import Derived.Shelf.Strings.BuilderK
import Derived.Shelf.Strings.Builder2Cap
import Derived.Shelf.Strings.Search1
import Derived.Shelf.Strings.Search2
import Derived.Shelf.Strings.Search3
import Derived.Shelf.Strings.Cut
import Derived.Shelf.Strings.Count
import Derived.Shelf.LaysM
import Derived.Shelf.Strings.Shaped
import Derived.Shelf.Strings.Prefix
import Derived.Shelf.Strings.Split
import Derived.Shelf.Strings.SplitShaped
import Derived.Shelf.Strings.Runes
import Derived.Shelf.Strings.AsciiSet
import Derived.Shelf.Unicode.DecodeSlow
import Derived.Shelf.Strings.BuilderCap
import Derived.Test.YtbfhpimmlehkcaaGreatDoorProg
import Derived.Lib.SplitLaws
import Derived.Shelf.Strings.SlTrimAscii
import Derived.Lib.Join
import Derived.Lib.SlTrimSet
import Derived.Test.YtbfhpimmlehkcaaGreatDoorK1
import Derived.Test.YtbfhpimmlehkcaaGreatDoorK2
import Derived.Test.YtbfhpimmlehkcaaGreatDoorK3
namespace Go.Proofs.YtbfhpimmlehkcaaGreatDoor
open Go.RowKit
namespace Ab
def ty3 : TyI:=⟨.int .i64,1,8,[.int .i64 0],some ⟨_,(.int .i64)⟩,true⟩
theorem tyOk3 : TyOk Tryz.prog 3 ty3:=qR (by kernel_rfl) Tryz.underlying3 rfl (by decide) rfl (fun _ _ h=>by cases h;rfl) (fun _=>by kernel_rfl)
def ty9 : TyI:=⟨.str,1,16,[.string ⟨#[]⟩],some ⟨_,.str⟩,true⟩
theorem tyOk9 : TyOk Tryz.prog 9 ty9:=qR (by kernel_rfl) Tryz.underlying9 rfl (by decide) rfl (fun _ _ h=>by cases h;rfl) (fun _=>by kernel_rfl)
def ty50 : TyI:=⟨.struct [(0,48),(1,3)],2,32,[.slice none 0 0,.int .i64 0],some ⟨_,(.st (.sl (.st (.st (.int .i64) (.st .str (.sl (.st .str .str)))) (.int .i64))) (.int .i64))⟩,false⟩
theorem tyOk50 : TyOk Tryz.prog 50 ty50:=qR (by kernel_rfl) ⟨by kernel_rfl,by kernel_rfl,by kernel_rfl,by kernel_rfl,by kernel_rfl⟩ rfl (by decide) rfl (fun _ _ h=>by cases h;rfl) (fun h=>by cases h)
def ty40 : TyI:=⟨.slice 85,1,24,[.slice none 0 0],some ⟨_,(.sl (.st .str .str))⟩,false⟩
theorem tyOk40 : TyOk Tryz.prog 40 ty40:=qR (by kernel_rfl) Tryz.underlying40 rfl (by decide) rfl (fun _ _ h=>by cases h;rfl) (fun h=>by cases h)
def ty61 : TyI:=⟨.struct [(0,3),(1,3),(2,40)],3,40,[.int .i64 0,.int .i64 0,.slice none 0 0],some ⟨_,(.st (.int .i64) (.st (.int .i64) (.sl (.st .str .str))))⟩,false⟩
theorem tyOk61 : TyOk Tryz.prog 61 ty61:=qR (by kernel_rfl) ⟨by kernel_rfl,by kernel_rfl,by kernel_rfl,by kernel_rfl,by kernel_rfl⟩ rfl (by decide) rfl (fun _ _ h=>by cases h;rfl) (fun h=>by cases h)
def ty78 : TyI:=⟨.slice 61,1,24,[.slice none 0 0],some ⟨_,(.sl (.st (.int .i64) (.st (.int .i64) (.sl (.st .str .str)))))⟩,false⟩
theorem tyOk78 : TyOk Tryz.prog 78 ty78:=qR (by kernel_rfl) Tryz.underlying78 rfl (by decide) rfl (fun _ _ h=>by cases h;rfl) (fun h=>by cases h)
def ty38 : TyI:=⟨.slice 42,1,24,[.slice none 0 0],some ⟨_,(.sl (.st (.int .i64) (.sl (.st .str .str))))⟩,false⟩
theorem tyOk38 : TyOk Tryz.prog 38 ty38:=qR (by kernel_rfl) Tryz.underlying38 rfl (by decide) rfl (fun _ _ h=>by cases h;rfl) (fun h=>by cases h)
def ty173 : TyI:=⟨.slice 9,1,24,[.slice none 0 0],some ⟨_,(.sl .str)⟩,false⟩
theorem tyOk173 : TyOk Tryz.prog 173 ty173:=qR (by kernel_rfl) Tryz.underlying173 rfl (by decide) rfl (fun _ _ h=>by cases h;rfl) (fun h=>by cases h)
def ty85 : TyI:=⟨.struct [(0,9),(1,9)],2,32,[.string ⟨#[]⟩,.string ⟨#[]⟩],some ⟨_,(.st .str .str)⟩,true⟩
theorem tyOk85 : TyOk Tryz.prog 85 ty85:=qR (by kernel_rfl) ⟨by kernel_rfl,by kernel_rfl,by kernel_rfl,by kernel_rfl,by kernel_rfl⟩ rfl (by decide) rfl (fun _ _ h=>by cases h;rfl) (fun _=>by kernel_rfl)
def ty106 : TyI:=⟨.slice 112,1,24,[.slice none 0 0],some ⟨_,(.sl (.st (.st (.int .i64) (.st .str (.sl (.st .str .str)))) (.int .i64)))⟩,false⟩
theorem tyOk106 : TyOk Tryz.prog 106 ty106:=qR (by kernel_rfl) Tryz.underlying106 rfl (by decide) rfl (fun _ _ h=>by cases h;rfl) (fun h=>by cases h)
def ty5 : TyI:=⟨.int .u8,1,1,[.int .u8 0],some ⟨_,(.int .u8)⟩,true⟩
theorem tyOk5 : TyOk Tryz.prog 5 ty5:=qR (by kernel_rfl) Tryz.underlying5 rfl (by decide) rfl (fun _ _ h=>by cases h;rfl) (fun _=>by kernel_rfl)
def ty42 : TyI:=⟨.struct [(0,3),(1,40)],2,32,[.int .i64 0,.slice none 0 0],some ⟨_,(.st (.int .i64) (.sl (.st .str .str)))⟩,false⟩
theorem tyOk42 : TyOk Tryz.prog 42 ty42:=qR (by kernel_rfl) ⟨by kernel_rfl,by kernel_rfl,by kernel_rfl,by kernel_rfl,by kernel_rfl⟩ rfl (by decide) rfl (fun _ _ h=>by cases h;rfl) (fun h=>by cases h)
def ty26 : TyI:=⟨.iface,1,16,[.nilIface],some ⟨_,.raw⟩,false⟩
theorem tyOk26 : TyOk Tryz.prog 26 ty26:=qR (by kernel_rfl) ⟨_,Tryz.underlying26⟩ rfl (by decide) rfl (fun _ _ h=>by cases h;rfl) (fun h=>by cases h)
def ty110 : TyI:=⟨.struct [(0,3),(1,9),(2,40)],3,48,[.int .i64 0,.string ⟨#[]⟩,.slice none 0 0],some ⟨_,(.st (.int .i64) (.st .str (.sl (.st .str .str))))⟩,false⟩
theorem tyOk110 : TyOk Tryz.prog 110 ty110:=qR (by kernel_rfl) ⟨by kernel_rfl,by kernel_rfl,by kernel_rfl,by kernel_rfl,by kernel_rfl⟩ rfl (by decide) rfl (fun _ _ h=>by cases h;rfl) (fun h=>by cases h)
def ty55 : TyI:=⟨.struct [(0,45),(1,38),(2,3)],3,56,[.slice none 0 0,.slice none 0 0,.int .i64 0],some ⟨_,(.st (.sl (.sl (.st .bool (.st .str (.st (.int .i64) .str))))) (.st (.sl (.st (.int .i64) (.sl (.st .str .str)))) (.int .i64)))⟩,false⟩
theorem tyOk55 : TyOk Tryz.prog 55 ty55:=qR (by kernel_rfl) ⟨by kernel_rfl,by kernel_rfl,by kernel_rfl,by kernel_rfl,by kernel_rfl⟩ rfl (by decide) rfl (fun _ _ h=>by cases h;rfl) (fun h=>by cases h)
def ty24 : TyI:=⟨.ptr 108,1,8,[.pointer none],none,false⟩
theorem tyOk24 : TyOk Tryz.prog 24 ty24:=qR (by kernel_rfl) Tryz.underlying24 rfl (by decide) rfl (fun _ _ h=>by cases h) (fun h=>by cases h)
def ty103 : TyI:=⟨.slice 110,1,24,[.slice none 0 0],some ⟨_,(.sl (.st (.int .i64) (.st .str (.sl (.st .str .str)))))⟩,false⟩
theorem tyOk103 : TyOk Tryz.prog 103 ty103:=qR (by kernel_rfl) Tryz.underlying103 rfl (by decide) rfl (fun _ _ h=>by cases h;rfl) (fun h=>by cases h)
def ty48 : TyI:=⟨.slice 131,1,24,[.slice none 0 0],some ⟨_,(.sl (.st (.st (.int .i64) (.st .str (.sl (.st .str .str)))) (.int .i64)))⟩,false⟩
theorem tyOk48 : TyOk Tryz.prog 48 ty48:=qR (by kernel_rfl) Tryz.underlying48 rfl (by decide) rfl (fun _ _ h=>by cases h;rfl) (fun h=>by cases h)
def ty4 : TyI:=⟨.bool,1,1,[.bool false],some ⟨_,.bool⟩,true⟩
theorem tyOk4 : TyOk Tryz.prog 4 ty4:=qR (by kernel_rfl) Tryz.underlying4 rfl (by decide) rfl (fun _ _ h=>by cases h;rfl) (fun _=>by kernel_rfl)
def ty22 : TyI:=⟨.slice 3,1,24,[.slice none 0 0],some ⟨_,(.sl (.int .i64))⟩,false⟩
theorem tyOk22 : TyOk Tryz.prog 22 ty22:=qR (by kernel_rfl) Tryz.underlying22 rfl (by decide) rfl (fun _ _ h=>by cases h;rfl) (fun h=>by cases h)
def ty21 : TyI:=⟨.int .i32,1,4,[.int .i32 0],some ⟨_,(.int .i32)⟩,true⟩
theorem tyOk21 : TyOk Tryz.prog 21 ty21:=qR (by kernel_rfl) Tryz.underlying21 rfl (by decide) rfl (fun _ _ h=>by cases h;rfl) (fun _=>by kernel_rfl)
def ty29 : TyI:=⟨.ptr 116,1,8,[.pointer none],none,false⟩
theorem tyOk29 : TyOk Tryz.prog 29 ty29:=qR (by kernel_rfl) Tryz.underlying29 rfl (by decide) rfl (fun _ _ h=>by cases h) (fun h=>by cases h)
def ty108 : TyI:=⟨.struct [(0,106),(1,3),(2,3)],3,40,[.slice none 0 0,.int .i64 0,.int .i64 0],some ⟨_,(.st (.sl (.st (.st (.int .i64) (.st .str (.sl (.st .str .str)))) (.int .i64))) (.st (.int .i64) (.int .i64)))⟩,false⟩
theorem tyOk108 : TyOk Tryz.prog 108 ty108:=qR (by kernel_rfl) ⟨by kernel_rfl,by kernel_rfl,by kernel_rfl,by kernel_rfl,by kernel_rfl⟩ rfl (by decide) rfl (fun _ _ h=>by cases h;rfl) (fun h=>by cases h)
def ty112 : TyI:=⟨.struct [(0,110),(3,3)],4,56,[.int .i64 0,.string ⟨#[]⟩,.slice none 0 0,.int .i64 0],some ⟨_,(.st (.st (.int .i64) (.st .str (.sl (.st .str .str)))) (.int .i64))⟩,false⟩
theorem tyOk112 : TyOk Tryz.prog 112 ty112:=qR (by kernel_rfl) ⟨by kernel_rfl,by kernel_rfl,by kernel_rfl,by kernel_rfl,by kernel_rfl⟩ rfl (by decide) rfl (fun _ _ h=>by cases h;rfl) (fun h=>by cases h)
def ty177 : TyI:=⟨.struct [(0,175),(3,103),(4,173),(5,40),(6,3)],7,120,[.slice none 0 0,.int .i64 0,.bool false,.slice none 0 0,.slice none 0 0,.slice none 0 0,.int .i64 0],some ⟨_,(.st (.st (.sl .str) (.st (.int .i64) .bool)) (.st (.sl (.st (.int .i64) (.st .str (.sl (.st .str .str))))) (.st (.sl .str) (.st (.sl (.st .str .str)) (.int .i64)))))⟩,false⟩
theorem tyOk177 : TyOk Tryz.prog 177 ty177:=qR (by kernel_rfl) ⟨by kernel_rfl,by kernel_rfl,by kernel_rfl,by kernel_rfl,by kernel_rfl⟩ rfl (by decide) rfl (fun _ _ h=>by cases h;rfl) (fun h=>by cases h)
def ty182 : TyI:=⟨.struct [(0,3),(1,3),(2,9),(3,4)],4,40,[.int .i64 0,.int .i64 0,.string ⟨#[]⟩,.bool false],some ⟨_,(.st (.int .i64) (.st (.int .i64) (.st .str .bool)))⟩,true⟩
theorem tyOk182 : TyOk Tryz.prog 182 ty182:=qR (by kernel_rfl) ⟨by kernel_rfl,by kernel_rfl,by kernel_rfl,by kernel_rfl,by kernel_rfl⟩ rfl (by decide) rfl (fun _ _ h=>by cases h;rfl) (fun _=>by kernel_rfl)
def ty32 : TyI:=⟨.slice 57,1,24,[.slice none 0 0],some ⟨_,(.sl (.sl (.st .bool (.st .str (.st (.int .i64) .str)))))⟩,false⟩
theorem tyOk32 : TyOk Tryz.prog 32 ty32:=qR (by kernel_rfl) Tryz.underlying32 rfl (by decide) rfl (fun _ _ h=>by cases h;rfl) (fun h=>by cases h)
def ty127 : TyI:=⟨.struct [(0,4),(1,9),(2,3),(3,9)],4,48,[.bool false,.string ⟨#[]⟩,.int .i64 0,.string ⟨#[]⟩],some ⟨_,(.st .bool (.st .str (.st (.int .i64) .str)))⟩,true⟩
theorem tyOk127 : TyOk Tryz.prog 127 ty127:=qR (by kernel_rfl) ⟨by kernel_rfl,by kernel_rfl,by kernel_rfl,by kernel_rfl,by kernel_rfl⟩ rfl (by decide) rfl (fun _ _ h=>by cases h;rfl) (fun _=>by kernel_rfl)
def ty245 : TyI:=⟨.struct [(0,242),(1,243)],2,32,[.pointer none,.slice none 0 0],none,false⟩
theorem tyOk245 : TyOk Tryz.prog 245 ty245:=qR (by kernel_rfl) ⟨by kernel_rfl,by kernel_rfl,by kernel_rfl,by kernel_rfl,by kernel_rfl⟩ rfl (by decide) rfl (fun _ _ h=>by cases h) (fun h=>by cases h)
def ty63 : TyI:=⟨.struct [(0,3),(1,3),(2,61)],5,56,[.int .i64 0,.int .i64 0,.int .i64 0,.int .i64 0,.slice none 0 0],some ⟨_,(.st (.int .i64) (.st (.int .i64) (.st (.int .i64) (.st (.int .i64) (.sl (.st .str .str))))))⟩,false⟩
theorem tyOk63 : TyOk Tryz.prog 63 ty63:=qR (by kernel_rfl) ⟨by kernel_rfl,by kernel_rfl,by kernel_rfl,by kernel_rfl,by kernel_rfl⟩ rfl (by decide) rfl (fun _ _ h=>by cases h;rfl) (fun h=>by cases h)
def ty131 : TyI:=⟨.struct [(0,110),(3,3)],4,56,[.int .i64 0,.string ⟨#[]⟩,.slice none 0 0,.int .i64 0],some ⟨_,(.st (.st (.int .i64) (.st .str (.sl (.st .str .str)))) (.int .i64))⟩,false⟩
theorem tyOk131 : TyOk Tryz.prog 131 ty131:=qR (by kernel_rfl) ⟨by kernel_rfl,by kernel_rfl,by kernel_rfl,by kernel_rfl,by kernel_rfl⟩ rfl (by decide) rfl (fun _ _ h=>by cases h;rfl) (fun h=>by cases h)
def ty116 : TyI:=⟨.struct [(0,32),(1,38),(2,3)],3,56,[.slice none 0 0,.slice none 0 0,.int .i64 0],some ⟨_,(.st (.sl (.sl (.st .bool (.st .str (.st (.int .i64) .str))))) (.st (.sl (.st (.int .i64) (.sl (.st .str .str)))) (.int .i64)))⟩,false⟩
theorem tyOk116 : TyOk Tryz.prog 116 ty116:=qR (by kernel_rfl) ⟨by kernel_rfl,by kernel_rfl,by kernel_rfl,by kernel_rfl,by kernel_rfl⟩ rfl (by decide) rfl (fun _ _ h=>by cases h;rfl) (fun h=>by cases h)
def ty118 : TyI:=⟨.int .i64,1,8,[.int .i64 0],some ⟨_,(.int .i64)⟩,true⟩
theorem tyOk118 : TyOk Tryz.prog 118 ty118:=qR (by kernel_rfl) Tryz.underlying118 rfl (by decide) rfl (fun _ _ h=>by cases h;rfl) (fun _=>by kernel_rfl)
def ty59 : TyI:=⟨.struct [(0,4),(1,9),(2,3),(3,9)],4,48,[.bool false,.string ⟨#[]⟩,.int .i64 0,.string ⟨#[]⟩],some ⟨_,(.st .bool (.st .str (.st (.int .i64) .str)))⟩,true⟩
theorem tyOk59 : TyOk Tryz.prog 59 ty59:=qR (by kernel_rfl) ⟨by kernel_rfl,by kernel_rfl,by kernel_rfl,by kernel_rfl,by kernel_rfl⟩ rfl (by decide) rfl (fun _ _ h=>by cases h;rfl) (fun _=>by kernel_rfl)
def ty195 : TyI:=⟨.slice 198,1,24,[.slice none 0 0],some ⟨_,(.sl (.st (.int .i64) (.st (.int .i64) (.st .str .bool))))⟩,false⟩
theorem tyOk195 : TyOk Tryz.prog 195 ty195:=qR (by kernel_rfl) Tryz.underlying195 rfl (by decide) rfl (fun _ _ h=>by cases h;rfl) (fun h=>by cases h)
def ty243 : TyI:=⟨.slice 5,1,24,[.slice none 0 0],some ⟨_,(.sl (.int .u8))⟩,false⟩
theorem tyOk243 : TyOk Tryz.prog 243 ty243:=qR (by kernel_rfl) Tryz.underlying243 rfl (by decide) rfl (fun _ _ h=>by cases h;rfl) (fun h=>by cases h)
def ty57 : TyI:=⟨.slice 59,1,24,[.slice none 0 0],some ⟨_,(.sl (.st .bool (.st .str (.st (.int .i64) .str))))⟩,false⟩
theorem tyOk57 : TyOk Tryz.prog 57 ty57:=qR (by kernel_rfl) Tryz.underlying57 rfl (by decide) rfl (fun _ _ h=>by cases h;rfl) (fun h=>by cases h)
def ty170 : TyI:=⟨.struct [(0,61),(3,40),(4,3)],5,72,[.int .i64 0,.int .i64 0,.slice none 0 0,.slice none 0 0,.int .i64 0],some ⟨_,(.st (.st (.int .i64) (.st (.int .i64) (.sl (.st .str .str)))) (.st (.sl (.st .str .str)) (.int .i64)))⟩,false⟩
theorem tyOk170 : TyOk Tryz.prog 170 ty170:=qR (by kernel_rfl) ⟨by kernel_rfl,by kernel_rfl,by kernel_rfl,by kernel_rfl,by kernel_rfl⟩ rfl (by decide) rfl (fun _ _ h=>by cases h;rfl) (fun h=>by cases h)
def ty304 : TyI:=⟨.int .u32,1,4,[.int .u32 0],some ⟨_,(.int .u32)⟩,true⟩
theorem tyOk304 : TyOk Tryz.prog 304 ty304:=qR (by kernel_rfl) Tryz.underlying304 rfl (by decide) rfl (fun _ _ h=>by cases h;rfl) (fun _=>by kernel_rfl)
def ty45 : TyI:=⟨.slice 126,1,24,[.slice none 0 0],some ⟨_,(.sl (.sl (.st .bool (.st .str (.st (.int .i64) .str)))))⟩,false⟩
theorem tyOk45 : TyOk Tryz.prog 45 ty45:=qR (by kernel_rfl) Tryz.underlying45 rfl (by decide) rfl (fun _ _ h=>by cases h;rfl) (fun h=>by cases h)
def ty172 : TyI:=⟨.ptr 177,1,8,[.pointer none],none,false⟩
theorem tyOk172 : TyOk Tryz.prog 172 ty172:=qR (by kernel_rfl) Tryz.underlying172 rfl (by decide) rfl (fun _ _ h=>by cases h) (fun h=>by cases h)
def ty126 : TyI:=⟨.slice 127,1,24,[.slice none 0 0],some ⟨_,(.sl (.st .bool (.st .str (.st (.int .i64) .str))))⟩,false⟩
theorem tyOk126 : TyOk Tryz.prog 126 ty126:=qR (by kernel_rfl) Tryz.underlying126 rfl (by decide) rfl (fun _ _ h=>by cases h;rfl) (fun h=>by cases h)
def ty154 : TyI:=⟨.struct [(0,3),(1,26)],2,24,[.int .i64 0,.nilIface],some ⟨_,(.st (.int .i64) .raw)⟩,false⟩
theorem tyOk154 : TyOk Tryz.prog 154 ty154:=qR (by kernel_rfl) ⟨by kernel_rfl,by kernel_rfl,by kernel_rfl,by kernel_rfl,by kernel_rfl⟩ rfl (by decide) rfl (fun _ _ h=>by cases h;rfl) (fun h=>by cases h)
def ty175 : TyI:=⟨.struct [(0,173),(1,3),(2,4)],3,40,[.slice none 0 0,.int .i64 0,.bool false],some ⟨_,(.st (.sl .str) (.st (.int .i64) .bool))⟩,false⟩
theorem tyOk175 : TyOk Tryz.prog 175 ty175:=qR (by kernel_rfl) ⟨by kernel_rfl,by kernel_rfl,by kernel_rfl,by kernel_rfl,by kernel_rfl⟩ rfl (by decide) rfl (fun _ _ h=>by cases h;rfl) (fun h=>by cases h)
def ty151 : TyI:=⟨.ptr 154,1,8,[.pointer none],none,false⟩
theorem tyOk151 : TyOk Tryz.prog 151 ty151:=qR (by kernel_rfl) Tryz.underlying151 rfl (by decide) rfl (fun _ _ h=>by cases h) (fun h=>by cases h)
def ty242 : TyI:=⟨.ptr 245,1,8,[.pointer none],none,false⟩
theorem tyOk242 : TyOk Tryz.prog 242 ty242:=qR (by kernel_rfl) Tryz.underlying242 rfl (by decide) rfl (fun _ _ h=>by cases h) (fun h=>by cases h)
def ty311 : TyI:=⟨.struct [(0,5),(1,5)],2,2,[.int .u8 0,.int .u8 0],some ⟨_,(.st (.int .u8) (.int .u8))⟩,true⟩
theorem tyOk311 : TyOk Tryz.prog 311 ty311:=qR (by kernel_rfl) ⟨by kernel_rfl,by kernel_rfl,by kernel_rfl,by kernel_rfl,by kernel_rfl⟩ rfl (by decide) rfl (fun _ _ h=>by cases h;rfl) (fun _=>by kernel_rfl)
def ty168 : TyI:=⟨.slice 170,1,24,[.slice none 0 0],some ⟨_,(.sl (.st (.st (.int .i64) (.st (.int .i64) (.sl (.st .str .str)))) (.st (.sl (.st .str .str)) (.int .i64))))⟩,false⟩
theorem tyOk168 : TyOk Tryz.prog 168 ty168:=qR (by kernel_rfl) Tryz.underlying168 rfl (by decide) rfl (fun _ _ h=>by cases h;rfl) (fun h=>by cases h)
def ty20 : TyI:=⟨.iface,1,16,[.nilIface],some ⟨_,.raw⟩,false⟩
theorem tyOk20 : TyOk Tryz.prog 20 ty20:=qR (by kernel_rfl) ⟨_,Tryz.underlying20⟩ rfl (by decide) rfl (fun _ _ h=>by cases h;rfl) (fun h=>by cases h)
def ty198 : TyI:=⟨.struct [(0,3),(1,3),(2,9),(3,4)],4,40,[.int .i64 0,.int .i64 0,.string ⟨#[]⟩,.bool false],some ⟨_,(.st (.int .i64) (.st (.int .i64) (.st .str .bool)))⟩,true⟩
theorem tyOk198 : TyOk Tryz.prog 198 ty198:=qR (by kernel_rfl) ⟨by kernel_rfl,by kernel_rfl,by kernel_rfl,by kernel_rfl,by kernel_rfl⟩ rfl (by decide) rfl (fun _ _ h=>by cases h;rfl) (fun _=>by kernel_rfl)
def ty46 : TyI:=⟨.slice 63,1,24,[.slice none 0 0],some ⟨_,(.sl (.st (.int .i64) (.st (.int .i64) (.st (.int .i64) (.st (.int .i64) (.sl (.st .str .str)))))))⟩,false⟩
theorem tyOk46 : TyOk Tryz.prog 46 ty46:=qR (by kernel_rfl) Tryz.underlying46 rfl (by decide) rfl (fun _ _ h=>by cases h;rfl) (fun h=>by cases h)
def ty33 : TyI:=⟨.other,1,8,[.nilFunc],none,false⟩
theorem tyOk33 : TyOk Tryz.prog 33 ty33:=qR (by kernel_rfl) ⟨_,Tryz.underlying33,trivial⟩ rfl (by decide) rfl (fun _ _ h=>by cases h) (fun h=>by cases h)
def ty188 : TyI:=⟨.other,1,8,[.nilFunc],none,false⟩
theorem tyOk188 : TyOk Tryz.prog 188 ty188:=qR (by kernel_rfl) ⟨_,Tryz.underlying188,trivial⟩ rfl (by decide) rfl (fun _ _ h=>by cases h) (fun h=>by cases h)
def ty279 : TyI:=⟨.ptr 275,1,8,[.pointer none],none,false⟩
theorem tyOk279 : TyOk Tryz.prog 279 ty279:=qR (by kernel_rfl) Tryz.underlying279 rfl (by decide) rfl (fun _ _ h=>by cases h) (fun h=>by cases h)
def ty187 : TyI:=⟨.other,1,8,[.nilFunc],none,false⟩
theorem tyOk187 : TyOk Tryz.prog 187 ty187:=qR (by kernel_rfl) ⟨_,Tryz.underlying187,trivial⟩ rfl (by decide) rfl (fun _ _ h=>by cases h) (fun h=>by cases h)
def ty191 : TyI:=⟨.other,1,8,[.nilFunc],none,false⟩
theorem tyOk191 : TyOk Tryz.prog 191 ty191:=qR (by kernel_rfl) ⟨_,Tryz.underlying191,trivial⟩ rfl (by decide) rfl (fun _ _ h=>by cases h) (fun h=>by cases h)
def ty230 : TyI:=⟨.other,1,8,[.nilFunc],none,false⟩
theorem tyOk230 : TyOk Tryz.prog 230 ty230:=qR (by kernel_rfl) ⟨_,Tryz.underlying230,trivial⟩ rfl (by decide) rfl (fun _ _ h=>by cases h) (fun h=>by cases h)
def ty267 : TyI:=⟨.int .u8,1,1,[.int .u8 0],some ⟨_,(.int .u8)⟩,true⟩
theorem tyOk267 : TyOk Tryz.prog 267 ty267:=qR (by kernel_rfl) Tryz.underlying267 rfl (by decide) rfl (fun _ _ h=>by cases h;rfl) (fun _=>by kernel_rfl)
def ty294 : TyI:=⟨.slice 26,1,24,[.slice none 0 0],some ⟨_,(.sl .raw)⟩,false⟩
theorem tyOk294 : TyOk Tryz.prog 294 ty294:=qR (by kernel_rfl) Tryz.underlying294 rfl (by decide) rfl (fun _ _ h=>by cases h;rfl) (fun h=>by cases h)
def ty156 : TyI:=⟨.other,1,8,[.nilFunc],none,false⟩
theorem tyOk156 : TyOk Tryz.prog 156 ty156:=qR (by kernel_rfl) ⟨_,Tryz.underlying156,trivial⟩ rfl (by decide) rfl (fun _ _ h=>by cases h) (fun h=>by cases h)
def ty193 : TyI:=⟨.other,1,8,[.nilFunc],none,false⟩
theorem tyOk193 : TyOk Tryz.prog 193 ty193:=qR (by kernel_rfl) ⟨_,Tryz.underlying193,trivial⟩ rfl (by decide) rfl (fun _ _ h=>by cases h) (fun h=>by cases h)
def ty241 : TyI:=⟨.ptr 151,1,8,[.pointer none],none,false⟩
theorem tyOk241 : TyOk Tryz.prog 241 ty241:=qR (by kernel_rfl) Tryz.underlying241 rfl (by decide) rfl (fun _ _ h=>by cases h) (fun h=>by cases h)
def ty271 : TyI:=⟨.ptr 5,1,8,[.pointer none],none,false⟩
theorem tyOk271 : TyOk Tryz.prog 271 ty271:=qR (by kernel_rfl) Tryz.underlying271 rfl (by decide) rfl (fun _ _ h=>by cases h) (fun h=>by cases h)
def ty289 : TyI:=⟨.iface,1,16,[.nilIface],some ⟨_,.raw⟩,false⟩
theorem tyOk289 : TyOk Tryz.prog 289 ty289:=qR (by kernel_rfl) ⟨_,Tryz.underlying289⟩ rfl (by decide) rfl (fun _ _ h=>by cases h;rfl) (fun h=>by cases h)
def ty292 : TyI:=⟨.iface,1,16,[.nilIface],some ⟨_,.raw⟩,false⟩
theorem tyOk292 : TyOk Tryz.prog 292 ty292:=qR (by kernel_rfl) ⟨_,Tryz.underlying292⟩ rfl (by decide) rfl (fun _ _ h=>by cases h;rfl) (fun h=>by cases h)
def ty293 : TyI:=⟨.iface,1,16,[.nilIface],some ⟨_,.raw⟩,false⟩
theorem tyOk293 : TyOk Tryz.prog 293 ty293:=qR (by kernel_rfl) ⟨_,Tryz.underlying293⟩ rfl (by decide) rfl (fun _ _ h=>by cases h;rfl) (fun h=>by cases h)
def ty339 : TyI:=⟨.ptr 26,1,8,[.pointer none],none,false⟩
theorem tyOk339 : TyOk Tryz.prog 339 ty339:=qR (by kernel_rfl) Tryz.underlying339 rfl (by decide) rfl (fun _ _ h=>by cases h) (fun h=>by cases h)
def ty17 : TyI:=⟨.ptr 325,1,8,[.pointer none],none,false⟩
theorem tyOk17 : TyOk Tryz.prog 17 ty17:=qR (by kernel_rfl) Tryz.underlying17 rfl (by decide) rfl (fun _ _ h=>by cases h) (fun h=>by cases h)
def te : List (TypeId × TyI):=[(3,ty3),(9,ty9),(50,ty50),(40,ty40),(61,ty61),(78,ty78),(38,ty38),(173,ty173),(85,ty85),(106,ty106),(5,ty5),(42,ty42),(26,ty26),(110,ty110),(55,ty55),(24,ty24),(103,ty103),(48,ty48),(4,ty4),(22,ty22),(21,ty21),(29,ty29),(108,ty108),(112,ty112),(177,ty177),(182,ty182),(32,ty32),(127,ty127),(245,ty245),(63,ty63),(131,ty131),(116,ty116),(118,ty118),(59,ty59),(195,ty195),(243,ty243),(57,ty57),(170,ty170),(304,ty304),(45,ty45),(172,ty172),(126,ty126),(154,ty154),(175,ty175),(151,ty151),(242,ty242),(311,ty311),(168,ty168),(20,ty20),(198,ty198),(46,ty46),(33,ty33),(188,ty188),(279,ty279),(187,ty187),(191,ty191),(230,ty230),(267,ty267),(294,ty294),(156,ty156),(193,ty193),(241,ty241),(271,ty271),(289,ty289),(292,ty292),(293,ty293),(339,ty339),(17,ty17)]
theorem teOk : TEok Tryz.prog te:=by
  intro p hp;simp only [te,List.mem_cons,List.not_mem_nil,or_false] at hp;rcases hp with rfl|rfl|rfl|rfl|rfl|rfl|rfl|rfl|rfl|rfl|rfl|rfl|rfl|rfl|rfl|rfl|rfl|rfl|rfl|rfl|rfl|rfl|rfl|rfl|rfl|rfl|rfl|rfl|rfl|rfl|rfl|rfl|rfl|rfl|rfl|rfl|rfl|rfl|rfl|rfl|rfl|rfl|rfl|rfl|rfl|rfl|rfl|rfl|rfl|rfl|rfl|rfl|rfl|rfl|rfl|rfl|rfl|rfl|rfl|rfl|rfl|rfl|rfl|rfl|rfl|rfl|rfl|rfl
  · exact tyOk3
  · exact tyOk9
  · exact tyOk50
  · exact tyOk40
  · exact tyOk61
  · exact tyOk78
  · exact tyOk38
  · exact tyOk173
  · exact tyOk85
  · exact tyOk106
  · exact tyOk5
  · exact tyOk42
  · exact tyOk26
  · exact tyOk110
  · exact tyOk55
  · exact tyOk24
  · exact tyOk103
  · exact tyOk48
  · exact tyOk4
  · exact tyOk22
  · exact tyOk21
  · exact tyOk29
  · exact tyOk108
  · exact tyOk112
  · exact tyOk177
  · exact tyOk182
  · exact tyOk32
  · exact tyOk127
  · exact tyOk245
  · exact tyOk63
  · exact tyOk131
  · exact tyOk116
  · exact tyOk118
  · exact tyOk59
  · exact tyOk195
  · exact tyOk243
  · exact tyOk57
  · exact tyOk170
  · exact tyOk304
  · exact tyOk45
  · exact tyOk172
  · exact tyOk126
  · exact tyOk154
  · exact tyOk175
  · exact tyOk151
  · exact tyOk242
  · exact tyOk311
  · exact tyOk168
  · exact tyOk20
  · exact tyOk198
  · exact tyOk46
  · exact tyOk33
  · exact tyOk188
  · exact tyOk279
  · exact tyOk187
  · exact tyOk191
  · exact tyOk230
  · exact tyOk267
  · exact tyOk294
  · exact tyOk156
  · exact tyOk193
  · exact tyOk241
  · exact tyOk271
  · exact tyOk289
  · exact tyOk292
  · exact tyOk293
  · exact tyOk339
  · exact tyOk17
end Ab
end Go.Proofs.YtbfhpimmlehkcaaGreatDoor
namespace Go.Proofs.YtbfhpimmlehkcaaGreatDoor
open Go.RowKit
namespace Bld
set_option maxRecDepth 100000
set_option maxHeartbeats 1000000
abbrev IsB (B b : Nat) (bs : List Value) (w : World) : Prop:=Lib.IsBuilder 245 5 B b bs w
theorem sizeBuilder : (Tryz.prog.info? 245).map (·.size) = some 2:=by kernel_rfl
theorem liesBuilder : liesAt Tryz.prog Tryz.prog.depth 245 (2 / Tryz.prog.cellsOf 245) 0 245 1 = true:=by kernel_rfl
theorem infoByte : (Tryz.prog.info? 5).map (fun i=>(i.zero,i.size,i.bytes)) = some (some (.int .u8 0),1,1):=by kernel_rfl
end Bld
end Go.Proofs.YtbfhpimmlehkcaaGreatDoor
namespace Go.Proofs.YtbfhpimmlehkcaaGreatDoor
open Go.RowKit
namespace Ab
abbrev bldO (u : Bool) (xs : List Int) : Obs:=[(0,.box 245 [.nself u 0,.vec 1]),(1,.vec 5 (.int .u8) xs)]
set_option maxRecDepth 10000
end Ab
end Go.Proofs.YtbfhpimmlehkcaaGreatDoor
namespace Go.Proofs.YtbfhpimmlehkcaaGreatDoor
open Go.RowKit
namespace Ab
set_option maxRecDepth 100000
set_option maxHeartbeats 2000000
end Ab
end Go.Proofs.YtbfhpimmlehkcaaGreatDoor
namespace Go.Proofs.YtbfhpimmlehkcaaGreatDoor
open Go.RowKit
namespace Ab
end Ab
end Go.Proofs.YtbfhpimmlehkcaaGreatDoor
namespace Go.Proofs
open Go.Shelf
def Tryz.lays169_ren : Go.Shelf.Ren:=⟨fun|169=>160|n=>n,fun|70=>242|9=>9|0=>0|72=>245|37=>243|127=>271|3=>3|5=>5|n=>n,fun|n=>n⟩
theorem Tryz.lays169 : Go.Proofs.Lays.n169 Tryz.prog Tryz.lays169_ren:={
  mixed:=by kernel_rfl
  f169:=Tryz.func160.trans (congrArg some (by kernel_rfl))
  t0:=Tryz.underlying0
  a0:=Tryz.isAgg0
  z0:=Tryz.sizeOf0
  v0:=Tryz.zeroValue0
  t3:=Tryz.underlying3
  a3:=Tryz.isAgg3
  z3:=Tryz.sizeOf3
  v3:=Tryz.zeroValue3
  t9:=Tryz.underlying9
  a9:=Tryz.isAgg9
  z9:=Tryz.sizeOf9
  v9:=Tryz.zeroValue9
  t37:=Tryz.underlying243
  a37:=Tryz.isAgg243
  z37:=Tryz.sizeOf243
  v37:=Tryz.zeroValue243
  t70:=Tryz.underlying242
  a70:=Tryz.isAgg242
  z70:=Tryz.sizeOf242
  v70:=Tryz.zeroValue242
  t72:=Tryz.underlying245
  a72:=Tryz.isAgg245
  z72:=Tryz.sizeOf245
  v72:=Tryz.zeroValue245
  t127:=Tryz.underlying271
  a127:=Tryz.isAgg271
  z127:=Tryz.sizeOf271
  v127:=Tryz.zeroValue271 }
theorem Tryz.Builder_Extra_169 : Builder.Extra Tryz.prog Tryz.lays169_ren:={
  sizeBuilder:=by kernel_rfl
  liesBuilder:=by kernel_rfl
  t5:=Tryz.underlying5
  a5:=Tryz.isAgg5
  z5:=Tryz.sizeOf5
  v5:=Tryz.zeroValue5
  infoByte:=by kernel_rfl
  cellsByte:=by kernel_rfl
  sizeByte:=by kernel_rfl
  neB5:=by decide }
open Go.RowKit in
theorem Tryz.Builder_String (B b : Nat) (l : List UInt8) (w : World) (h : Lib.IsBuilder 245 5 B b (Lib.byteCells l) w) (h0 : l ≠ []) :
    Calls Tryz.prog 160 #[.pointer (some ⟨b,0,none⟩)] w fun e w'=>e = .returned (.string ⟨l.toArray⟩) ∧ Below B w w':=Any.Builder_String Tryz.lays169 Tryz.Builder_Extra_169 B b l w h h0
open Go.RowKit in
theorem Tryz.Builder_String_empty (B b : Nat) (w : World) (h : Lib.IsBuilder 245 5 B b [] w) (hBw : B ≤ w.heap.size) :
    Calls Tryz.prog 160 #[.pointer (some ⟨b,0,none⟩)] w fun e w'=>e = .returned (.string ⟨#[]⟩) ∧ Below B w w':=Any.Builder_String_empty Tryz.lays169 Tryz.Builder_Extra_169 B b w h hBw
open Go.RowKit in
theorem Tryz.Builder_String_any (B b : Nat) (l : List UInt8) (w : World) (h : Lib.IsBuilder 245 5 B b (Lib.byteCells l) w) (hBw : B ≤ w.heap.size) :
    Calls Tryz.prog 160 #[.pointer (some ⟨b,0,none⟩)] w fun e w'=>e = .returned (.string ⟨l.toArray⟩) ∧ Below B w w':=Any.Builder_String_any Tryz.lays169 Tryz.Builder_Extra_169 B b l w h hBw
def Tryz.lays241_ren : Go.Shelf.Ren:=⟨fun|241=>193|277=>210|n=>n,fun|70=>242|3=>3|0=>0|72=>245|37=>243|5=>5|n=>n,fun|n=>n⟩
theorem Tryz.lays241 : Go.Proofs.Lays.n241 Tryz.prog Tryz.lays241_ren:={
  mixed:=by kernel_rfl
  f241:=Tryz.func193.trans (congrArg some (by kernel_rfl))
  f277:=Tryz.func210.trans (congrArg some (by kernel_rfl))
  t0:=Tryz.underlying0
  a0:=Tryz.isAgg0
  z0:=Tryz.sizeOf0
  v0:=Tryz.zeroValue0
  t3:=Tryz.underlying3
  a3:=Tryz.isAgg3
  z3:=Tryz.sizeOf3
  v3:=Tryz.zeroValue3
  t37:=Tryz.underlying243
  a37:=Tryz.isAgg243
  z37:=Tryz.sizeOf243
  v37:=Tryz.zeroValue243
  t70:=Tryz.underlying242
  a70:=Tryz.isAgg242
  z70:=Tryz.sizeOf242
  v70:=Tryz.zeroValue242
  t72:=Tryz.underlying245
  a72:=Tryz.isAgg245
  z72:=Tryz.sizeOf245
  v72:=Tryz.zeroValue245 }
theorem Tryz.Builder_Extra_241 : Builder.Extra Tryz.prog Tryz.lays241_ren:={
  sizeBuilder:=by kernel_rfl
  liesBuilder:=by kernel_rfl
  t5:=Tryz.underlying5
  a5:=Tryz.isAgg5
  z5:=Tryz.sizeOf5
  v5:=Tryz.zeroValue5
  infoByte:=by kernel_rfl
  cellsByte:=by kernel_rfl
  sizeByte:=by kernel_rfl
  neB5:=by decide }
open Go.RowKit in
theorem Tryz.Builder_grow_fresh (B b n : Nat) (w : World) (hB : B ≤ b) (hbk : w.heap[b]? = some (.cells #[.pointer (some ⟨b,0,none⟩),.slice none 0 0] 245 (0,0))) (hBw : B ≤ w.heap.size) (hn : n ≤ 281474976710656) :
    Calls Tryz.prog 193 #[.pointer (some ⟨b,0,none⟩),.int .i64 n] w fun e w'=>e = .returned (.tuple #[]) ∧ (Lib.BuilderAt 245 5 B b (.pointer (some ⟨b,0,none⟩)) [] w' ∧ Below B w w'):=Any.Builder_grow_fresh Tryz.lays241 Tryz.Builder_Extra_241 B b n w hB hbk hBw hn
def Tryz.lays165_ren : Go.Shelf.Ren:=⟨fun|165=>169|240=>180|241=>193|276=>200|277=>210|n=>n,fun|70=>242|3=>3|0=>0|4=>4|9=>9|20=>20|72=>245|37=>243|164=>259|5=>5|n=>n,fun|n=>n⟩
theorem Tryz.lays165 : Go.Proofs.Lays.n165 Tryz.prog Tryz.lays165_ren:={
  mixed:=by kernel_rfl
  f165:=Tryz.func169.trans (congrArg some (by kernel_rfl))
  f240:=Tryz.func180.trans (congrArg some (by kernel_rfl))
  f241:=Tryz.func193.trans (congrArg some (by kernel_rfl))
  f276:=Tryz.func200.trans (congrArg some (by kernel_rfl))
  f277:=Tryz.func210.trans (congrArg some (by kernel_rfl))
  t0:=Tryz.underlying0
  a0:=Tryz.isAgg0
  z0:=Tryz.sizeOf0
  v0:=Tryz.zeroValue0
  t3:=Tryz.underlying3
  a3:=Tryz.isAgg3
  z3:=Tryz.sizeOf3
  v3:=Tryz.zeroValue3
  t4:=Tryz.underlying4
  a4:=Tryz.isAgg4
  z4:=Tryz.sizeOf4
  v4:=Tryz.zeroValue4
  t9:=Tryz.underlying9
  a9:=Tryz.isAgg9
  z9:=Tryz.sizeOf9
  v9:=Tryz.zeroValue9
  t20:=Tryz.underlying20
  a20:=Tryz.isAgg20
  z20:=Tryz.sizeOf20
  v20:=Tryz.zeroValue20
  t37:=Tryz.underlying243
  a37:=Tryz.isAgg243
  z37:=Tryz.sizeOf243
  v37:=Tryz.zeroValue243
  t70:=Tryz.underlying242
  a70:=Tryz.isAgg242
  z70:=Tryz.sizeOf242
  v70:=Tryz.zeroValue242
  t72:=Tryz.underlying245
  a72:=Tryz.isAgg245
  z72:=Tryz.sizeOf245
  v72:=Tryz.zeroValue245
  t164:=Tryz.underlying259
  a164:=Tryz.isAgg259
  z164:=Tryz.sizeOf259
  v164:=Tryz.zeroValue259 }
theorem Tryz.Builder_Extra_165 : Builder.Extra Tryz.prog Tryz.lays165_ren:={
  sizeBuilder:=by kernel_rfl
  liesBuilder:=by kernel_rfl
  t5:=Tryz.underlying5
  a5:=Tryz.isAgg5
  z5:=Tryz.sizeOf5
  v5:=Tryz.zeroValue5
  infoByte:=by kernel_rfl
  cellsByte:=by kernel_rfl
  sizeByte:=by kernel_rfl
  neB5:=by decide }
open Go.RowKit in
theorem Tryz.Builder_Grow_fresh (B b n : Nat) (w : World) (hB : B ≤ b) (hbk : w.heap[b]? = some (.cells #[.pointer none,.slice none 0 0] 245 (0,0))) (hBw : B ≤ w.heap.size) (hn : n ≤ 281474976710656) :
    Calls Tryz.prog 169 #[.pointer (some ⟨b,0,none⟩),.int .i64 n] w fun e w'=>e = .returned (.tuple #[]) ∧ (Lib.BuilderAt 245 5 B b (.pointer (some ⟨b,0,none⟩)) [] w' ∧ Below B w w'):=Any.Builder_Grow_fresh Tryz.lays165 Tryz.Builder_Extra_165 B b n w hB hbk hBw hn
def Tryz.lays156_ren : Go.Shelf.Ren:=⟨fun|156=>143|165=>169|166=>159|169=>160|240=>180|241=>193|276=>200|277=>210|n=>n,fun|31=>173|9=>9|3=>3|4=>4|0=>0|20=>20|72=>245|76=>73|70=>242|37=>243|75=>26|127=>271|164=>259|5=>5|80=>93|n=>n,fun|n=>n⟩
theorem Tryz.lays156 : Go.Proofs.Lays.n156 Tryz.prog Tryz.lays156_ren:={
  mixed:=by kernel_rfl
  f156:=Tryz.func143.trans (congrArg some (by kernel_rfl))
  f165:=Tryz.func169.trans (congrArg some (by kernel_rfl))
  f166:=Tryz.func159.trans (congrArg some (by kernel_rfl))
  f169:=Tryz.func160.trans (congrArg some (by kernel_rfl))
  f240:=Tryz.func180.trans (congrArg some (by kernel_rfl))
  f241:=Tryz.func193.trans (congrArg some (by kernel_rfl))
  f276:=Tryz.func200.trans (congrArg some (by kernel_rfl))
  f277:=Tryz.func210.trans (congrArg some (by kernel_rfl))
  t0:=Tryz.underlying0
  a0:=Tryz.isAgg0
  z0:=Tryz.sizeOf0
  v0:=Tryz.zeroValue0
  t3:=Tryz.underlying3
  a3:=Tryz.isAgg3
  z3:=Tryz.sizeOf3
  v3:=Tryz.zeroValue3
  t4:=Tryz.underlying4
  a4:=Tryz.isAgg4
  z4:=Tryz.sizeOf4
  v4:=Tryz.zeroValue4
  t9:=Tryz.underlying9
  a9:=Tryz.isAgg9
  z9:=Tryz.sizeOf9
  v9:=Tryz.zeroValue9
  t20:=Tryz.underlying20
  a20:=Tryz.isAgg20
  z20:=Tryz.sizeOf20
  v20:=Tryz.zeroValue20
  t31:=Tryz.underlying173
  a31:=Tryz.isAgg173
  z31:=Tryz.sizeOf173
  v31:=Tryz.zeroValue173
  t37:=Tryz.underlying243
  a37:=Tryz.isAgg243
  z37:=Tryz.sizeOf243
  v37:=Tryz.zeroValue243
  t70:=Tryz.underlying242
  a70:=Tryz.isAgg242
  z70:=Tryz.sizeOf242
  v70:=Tryz.zeroValue242
  t72:=Tryz.underlying245
  a72:=Tryz.isAgg245
  z72:=Tryz.sizeOf245
  v72:=Tryz.zeroValue245
  t75:=Tryz.underlying26
  a75:=Tryz.isAgg26
  z75:=Tryz.sizeOf26
  v75:=Tryz.zeroValue26
  t76:=Tryz.underlying73
  a76:=Tryz.isAgg73
  z76:=Tryz.sizeOf73
  v76:=Tryz.zeroValue73
  t127:=Tryz.underlying271
  a127:=Tryz.isAgg271
  z127:=Tryz.sizeOf271
  v127:=Tryz.zeroValue271
  t164:=Tryz.underlying259
  a164:=Tryz.isAgg259
  z164:=Tryz.sizeOf259
  v164:=Tryz.zeroValue259 }
theorem Tryz.Builder_Extra_156 : Builder.Extra Tryz.prog Tryz.lays156_ren:={
  sizeBuilder:=by kernel_rfl
  liesBuilder:=by kernel_rfl
  t5:=Tryz.underlying5
  a5:=Tryz.isAgg5
  z5:=Tryz.sizeOf5
  v5:=Tryz.zeroValue5
  infoByte:=by kernel_rfl
  cellsByte:=by kernel_rfl
  sizeByte:=by kernel_rfl
  neB5:=by decide }
open Go.RowKit in
theorem Tryz.strings_Join_none (a : Option Addr) (c : Nat) (sep : ByteArray) (w : World) :
    Calls Tryz.prog 143 #[.slice a 0 c,.string sep] w fun e w'=>e = .returned (.string ⟨#[]⟩) ∧ w' = w:=Any.strings_Join_none Tryz.lays156 Tryz.Builder_Extra_156 a c sep w
open Go.RowKit in
theorem Tryz.strings_Join (bk o c : Nat) (xs : List ByteArray) (sep : ByteArray) (w : World) (hcells : ∀ (j : Nat) x,xs[j]? = some x → w.cell? ⟨bk,o + j,none⟩ = some (.string x)) (hbk : bk < w.heap.size) (hN : xs.length ≤ 140737488355328) (hcap : xs.length ≤ c) (hlen : (Lib.join (xs.map (·.data.toList)) sep.data.toList).length ≤ 140737488355328) :
    Calls Tryz.prog 143 #[.slice (some ⟨bk,o,none⟩) xs.length c,.string sep] w fun e w'=>e = .returned (.string ⟨(Lib.join (xs.map (·.data.toList)) sep.data.toList).toArray⟩) ∧ Below w.heap.size w w':=Any.strings_Join Tryz.lays156 Tryz.Builder_Extra_156 bk o c xs sep w hcells hbk hN hcap hlen
def Tryz.lays231_ren : Go.Shelf.Ren:=⟨fun|231=>183|n=>n,fun|9=>9|5=>5|3=>3|4=>4|n=>n,fun|n=>n⟩
theorem Tryz.lays231 : Go.Proofs.Lays.n231 Tryz.prog Tryz.lays231_ren:={
  mixed:=by kernel_rfl
  f231:=Tryz.func183.trans (congrArg some (by kernel_rfl))
  t3:=Tryz.underlying3
  a3:=Tryz.isAgg3
  z3:=Tryz.sizeOf3
  v3:=Tryz.zeroValue3
  t4:=Tryz.underlying4
  a4:=Tryz.isAgg4
  z4:=Tryz.sizeOf4
  v4:=Tryz.zeroValue4
  t5:=Tryz.underlying5
  a5:=Tryz.isAgg5
  z5:=Tryz.sizeOf5
  v5:=Tryz.zeroValue5
  t9:=Tryz.underlying9
  a9:=Tryz.isAgg9
  z9:=Tryz.sizeOf9
  v9:=Tryz.zeroValue9 }
open Go.RowKit in
theorem Tryz.strings_trimLeftByte (s : ByteArray) (c : UInt8) (w : World) :
    Calls Tryz.prog 183 #[.string s,.int .u8 c.toNat] w fun e w'=>e = .returned (.string ⟨(Lib.trimLeftB s.data.toList c).toArray⟩) ∧ w' = w:=Any.strings_trimLeftByte Tryz.lays231 s c w
def Tryz.lays232_ren : Go.Shelf.Ren:=⟨fun|232=>184|n=>n,fun|9=>9|5=>5|3=>3|4=>4|n=>n,fun|n=>n⟩
theorem Tryz.lays232 : Go.Proofs.Lays.n232 Tryz.prog Tryz.lays232_ren:={
  mixed:=by kernel_rfl
  f232:=Tryz.func184.trans (congrArg some (by kernel_rfl))
  t3:=Tryz.underlying3
  a3:=Tryz.isAgg3
  z3:=Tryz.sizeOf3
  v3:=Tryz.zeroValue3
  t4:=Tryz.underlying4
  a4:=Tryz.isAgg4
  z4:=Tryz.sizeOf4
  v4:=Tryz.zeroValue4
  t5:=Tryz.underlying5
  a5:=Tryz.isAgg5
  z5:=Tryz.sizeOf5
  v5:=Tryz.zeroValue5
  t9:=Tryz.underlying9
  a9:=Tryz.isAgg9
  z9:=Tryz.sizeOf9
  v9:=Tryz.zeroValue9 }
open Go.RowKit in
theorem Tryz.strings_trimRightByte (s : ByteArray) (c : UInt8) (w : World) (hs : s.size ≤ 9223372036854775807) :
    Calls Tryz.prog 184 #[.string s,.int .u8 c.toNat] w fun e w'=>e = .returned (.string ⟨(Lib.trimRightB s.data.toList c).toArray⟩) ∧ w' = w:=Any.strings_trimRightByte Tryz.lays232 s c w hs
def Tryz.lays160_ren : Go.Shelf.Ren:=⟨fun|160=>164|232=>184|231=>183|227=>185|234=>187|233=>186|236=>189|235=>188|228=>205|271=>208|151=>207|197=>206|120=>216|152=>215|260=>214|137=>219|119=>220|224=>203|225=>202|217=>201|266=>212|n=>n,fun|9=>9|4=>4|3=>3|5=>5|117=>276|116=>275|0=>0|124=>279|21=>21|105=>299|46=>298|119=>309|139=>312|138=>311|n=>n,fun|3=>2|4=>3|n=>n⟩
theorem Tryz.lays160 : Go.Proofs.Lays.n160 Tryz.prog Tryz.lays160_ren:={
  mixed:=by kernel_rfl
  f119:=Tryz.func220.trans (congrArg some (by kernel_rfl))
  f120:=Tryz.func216.trans (congrArg some (by kernel_rfl))
  f137:=Tryz.func219.trans (congrArg some (by kernel_rfl))
  f151:=Tryz.func207.trans (congrArg some (by kernel_rfl))
  f152:=Tryz.func215.trans (congrArg some (by kernel_rfl))
  f160:=Tryz.func164.trans (congrArg some (by kernel_rfl))
  f197:=Tryz.func206.trans (congrArg some (by kernel_rfl))
  f217:=Tryz.func201.trans (congrArg some (by kernel_rfl))
  f224:=Tryz.func203.trans (congrArg some (by kernel_rfl))
  f225:=Tryz.func202.trans (congrArg some (by kernel_rfl))
  f227:=Tryz.func185.trans (congrArg some (by kernel_rfl))
  f228:=Tryz.func205.trans (congrArg some (by kernel_rfl))
  f231:=Tryz.func183.trans (congrArg some (by kernel_rfl))
  f232:=Tryz.func184.trans (congrArg some (by kernel_rfl))
  f233:=Tryz.func186.trans (congrArg some (by kernel_rfl))
  f234:=Tryz.func187.trans (congrArg some (by kernel_rfl))
  f235:=Tryz.func188.trans (congrArg some (by kernel_rfl))
  f236:=Tryz.func189.trans (congrArg some (by kernel_rfl))
  f260:=Tryz.func214.trans (congrArg some (by kernel_rfl))
  f266:=Tryz.func212.trans (congrArg some (by kernel_rfl))
  f271:=Tryz.func208.trans (congrArg some (by kernel_rfl))
  t0:=Tryz.underlying0
  a0:=Tryz.isAgg0
  z0:=Tryz.sizeOf0
  v0:=Tryz.zeroValue0
  t3:=Tryz.underlying3
  a3:=Tryz.isAgg3
  z3:=Tryz.sizeOf3
  v3:=Tryz.zeroValue3
  t4:=Tryz.underlying4
  a4:=Tryz.isAgg4
  z4:=Tryz.sizeOf4
  v4:=Tryz.zeroValue4
  t5:=Tryz.underlying5
  a5:=Tryz.isAgg5
  z5:=Tryz.sizeOf5
  v5:=Tryz.zeroValue5
  t9:=Tryz.underlying9
  a9:=Tryz.isAgg9
  z9:=Tryz.sizeOf9
  v9:=Tryz.zeroValue9
  t21:=Tryz.underlying21
  a21:=Tryz.isAgg21
  z21:=Tryz.sizeOf21
  v21:=Tryz.zeroValue21
  t46:=Tryz.underlying298
  a46:=Tryz.isAgg298
  z46:=Tryz.sizeOf298
  v46:=Tryz.zeroValue298
  t105:=Tryz.underlying299
  a105:=Tryz.isAgg299
  z105:=Tryz.sizeOf299
  v105:=Tryz.zeroValue299
  t116:=Tryz.underlying275
  a116:=Tryz.isAgg275
  z116:=Tryz.sizeOf275
  t117:=Tryz.underlying276
  a117:=Tryz.isAgg276
  z117:=Tryz.sizeOf276
  v117:=Tryz.zeroValue276
  t119:=Tryz.underlying309
  a119:=Tryz.isAgg309
  z119:=Tryz.sizeOf309
  t124:=Tryz.underlying279
  a124:=Tryz.isAgg279
  z124:=Tryz.sizeOf279
  v124:=Tryz.zeroValue279
  t138:=Tryz.underlying311
  a138:=Tryz.isAgg311
  z138:=Tryz.sizeOf311
  v138:=Tryz.zeroValue311
  t139:=Tryz.underlying312
  a139:=Tryz.isAgg312
  z139:=Tryz.sizeOf312
  v139:=Tryz.zeroValue312
  g3:=by kernel_rfl
  g4:=by kernel_rfl }
open Go.RowKit in
theorem Tryz.strings_Trim_one (s : ByteArray) (c : UInt8) (hc : c.toNat < 128) (w : World) (hs : s.size ≤ 9223372036854775807) :
    Calls Tryz.prog 164 #[.string s,.string ⟨#[c]⟩] w fun e w'=>e = .returned (.string ⟨(Lib.trimB s.data.toList c).toArray⟩) ∧ (w' = w ∨ w' = w.drew):=Any.strings_Trim_one Tryz.lays160 s c hc w hs
def Tryz.lays119_ren : Go.Shelf.Ren:=⟨fun|119=>220|n=>n,fun|21=>21|4=>4|n=>n,fun|n=>n⟩
def Tryz.lays120_ren : Go.Shelf.Ren:=⟨fun|120=>216|n=>n,fun|5=>5|4=>4|n=>n,fun|n=>n⟩
def Tryz.lays137_ren : Go.Shelf.Ren:=⟨fun|137=>219|217=>201|266=>212|n=>n,fun|9=>9|5=>5|3=>3|n=>n,fun|n=>n⟩
theorem Tryz.lays137 : Go.Proofs.Lays.n137 Tryz.prog Tryz.lays137_ren:={
  mixed:=by kernel_rfl
  f137:=Tryz.func219.trans (congrArg some (by kernel_rfl))
  f217:=Tryz.func201.trans (congrArg some (by kernel_rfl))
  f266:=Tryz.func212.trans (congrArg some (by kernel_rfl))
  t3:=Tryz.underlying3
  a3:=Tryz.isAgg3
  z3:=Tryz.sizeOf3
  v3:=Tryz.zeroValue3
  t5:=Tryz.underlying5
  a5:=Tryz.isAgg5
  z5:=Tryz.sizeOf5
  v5:=Tryz.zeroValue5
  t9:=Tryz.underlying9
  a9:=Tryz.isAgg9
  z9:=Tryz.sizeOf9
  v9:=Tryz.zeroValue9 }
open Go.RowKit in
theorem Tryz.strings_IndexByte (s : ByteArray) (c : Int) (w : World) :
    Calls Tryz.prog 219 #[.string s,.int .u8 c] w fun e w'=>e = .returned (.int .i64 (Lib.indexByte s.data.toList c.toNat.toUInt8)) ∧ w' = w:=Any.strings_IndexByte Tryz.lays137 s c w
open Go.RowKit in
theorem Tryz.Builder_String_f (B b : Nat) (l : List UInt8) (w : World) (h : Lib.IsBuilderF 245 5 B b (Lib.byteCells l) w) (h0 : l ≠ []) :
    Calls Tryz.prog 160 #[.pointer (some ⟨b,0,none⟩)] w fun e w'=>e = .returned (.string ⟨l.toArray⟩) ∧ (Lib.IsBuilderF 245 5 B b (Lib.byteCells l) w' ∧ Below B w w'):=Any.Builder_String_f Tryz.lays169 Tryz.Builder_Extra_169 B b l w h h0
open Go.RowKit in
theorem Tryz.Builder_String_empty_f (B b : Nat) (w : World) (h : Lib.IsBuilderF 245 5 B b [] w) (hBw : B ≤ w.heap.size) :
    Calls Tryz.prog 160 #[.pointer (some ⟨b,0,none⟩)] w fun e w'=>e = .returned (.string ⟨#[]⟩) ∧ (Lib.IsBuilderF 245 5 B b [] w' ∧ Below B w w'):=Any.Builder_String_empty_f Tryz.lays169 Tryz.Builder_Extra_169 B b w h hBw
open Go.RowKit in
theorem Tryz.Builder_String_any_f (B b : Nat) (l : List UInt8) (w : World) (h : Lib.IsBuilderF 245 5 B b (Lib.byteCells l) w) (hBw : B ≤ w.heap.size) :
    Calls Tryz.prog 160 #[.pointer (some ⟨b,0,none⟩)] w fun e w'=>e = .returned (.string ⟨l.toArray⟩) ∧ (Lib.IsBuilderF 245 5 B b (Lib.byteCells l) w' ∧ Below B w w'):=Any.Builder_String_any_f Tryz.lays169 Tryz.Builder_Extra_169 B b l w h hBw
open Go.RowKit in
theorem Tryz.Builder_String_k (B b : Nat) (l : List UInt8) (w : World) (h : Lib.IsBuilderF 245 5 B b (Lib.byteCells l) w) (h0 : l ≠ []) :
    Calls Tryz.prog 160 #[.pointer (some ⟨b,0,none⟩)] w fun e w'=>e = .returned (.string ⟨l.toArray⟩) ∧ (Lib.IsBuilderF 245 5 B b (Lib.byteCells l) w' ∧ Below B w w' ∧ Lib.OthersKept 5 (some b) w w'):=Any.Builder_String_k Tryz.lays169 Tryz.Builder_Extra_169 B b l w h h0
open Go.RowKit in
theorem Tryz.Builder_String_empty_k (B b : Nat) (w : World) (h : Lib.IsBuilderF 245 5 B b [] w) (hBw : B ≤ w.heap.size) :
    Calls Tryz.prog 160 #[.pointer (some ⟨b,0,none⟩)] w fun e w'=>e = .returned (.string ⟨#[]⟩) ∧ (Lib.IsBuilderF 245 5 B b [] w' ∧ Below B w w' ∧ Lib.OthersKept 5 (some b) w w'):=Any.Builder_String_empty_k Tryz.lays169 Tryz.Builder_Extra_169 B b w h hBw
open Go.RowKit in
theorem Tryz.Builder_String_any_k (B b : Nat) (l : List UInt8) (w : World) (h : Lib.IsBuilderF 245 5 B b (Lib.byteCells l) w) (hBw : B ≤ w.heap.size) :
    Calls Tryz.prog 160 #[.pointer (some ⟨b,0,none⟩)] w fun e w'=>e = .returned (.string ⟨l.toArray⟩) ∧ (Lib.IsBuilderF 245 5 B b (Lib.byteCells l) w' ∧ Below B w w' ∧ Lib.OthersKept 5 (some b) w w'):=Any.Builder_String_any_k Tryz.lays169 Tryz.Builder_Extra_169 B b l w h hBw
open Go.RowKit in
theorem Tryz.Builder_grow_fresh_cap (B b n : Nat) (w : World) (hB : B ≤ b) (hbk : w.heap[b]? = some (.cells #[.pointer (some ⟨b,0,none⟩),.slice none 0 0] 245 (0,0))) (hBw : B ≤ w.heap.size) (hn : n ≤ 281474976710656) :
    Calls Tryz.prog 193 #[.pointer (some ⟨b,0,none⟩),.int .i64 n] w fun e w'=>e = .returned (.tuple #[]) ∧ (Lib.BuilderAt 245 5 B b (.pointer (some ⟨b,0,none⟩)) [] w' ∧ Below B w w') ∧ ∃ p cap,w'.cell? ⟨b,1,none⟩ = some (.slice p 0 cap) ∧ n ≤ cap:=Any.Builder_grow_fresh_cap Tryz.lays241 Tryz.Builder_Extra_241 B b n w hB hbk hBw hn
open Go.RowKit in
theorem Tryz.Builder_Grow_fresh_cap (B b n : Nat) (w : World) (hB : B ≤ b) (hbk : w.heap[b]? = some (.cells #[.pointer none,.slice none 0 0] 245 (0,0))) (hBw : B ≤ w.heap.size) (hn : n ≤ 281474976710656) :
    Calls Tryz.prog 169 #[.pointer (some ⟨b,0,none⟩),.int .i64 n] w fun e w'=>e = .returned (.tuple #[]) ∧ (Lib.BuilderAt 245 5 B b (.pointer (some ⟨b,0,none⟩)) [] w' ∧ Below B w w') ∧ ∃ p cap,w'.cell? ⟨b,1,none⟩ = some (.slice p 0 cap) ∧ n ≤ cap:=Any.Builder_Grow_fresh_cap Tryz.lays165 Tryz.Builder_Extra_165 B b n w hB hbk hBw hn
def Tryz.lays217_ren : Go.Shelf.Ren:=⟨fun|217=>201|266=>212|n=>n,fun|9=>9|5=>5|3=>3|n=>n,fun|n=>n⟩
theorem Tryz.lays217 : Go.Proofs.Lays.n217 Tryz.prog Tryz.lays217_ren:={
  mixed:=by kernel_rfl
  f217:=Tryz.func201.trans (congrArg some (by kernel_rfl))
  f266:=Tryz.func212.trans (congrArg some (by kernel_rfl))
  t3:=Tryz.underlying3
  a3:=Tryz.isAgg3
  z3:=Tryz.sizeOf3
  v3:=Tryz.zeroValue3
  t5:=Tryz.underlying5
  a5:=Tryz.isAgg5
  z5:=Tryz.sizeOf5
  v5:=Tryz.zeroValue5
  t9:=Tryz.underlying9
  a9:=Tryz.isAgg9
  z9:=Tryz.sizeOf9
  v9:=Tryz.zeroValue9 }
open Go.RowKit Go.Lib in
theorem Tryz.stringslite_IndexByte (s : ByteArray) (c : Int) (w : World) :
    Calls Tryz.prog 201 #[.string s,.int .u8 c] w fun e w'=>e = .returned (.int .i64 (Lib.indexByte s.data.toList c.toNat.toUInt8)) ∧ w' = w:=Any.stringslite_IndexByte Tryz.lays217 s c w
def Tryz.lays224_ren : Go.Shelf.Ren:=⟨fun|224=>203|n=>n,fun|3=>3|n=>n,fun|n=>n⟩
theorem Tryz.lays224 : Go.Proofs.Lays.n224 Tryz.prog Tryz.lays224_ren:={
  mixed:=by kernel_rfl
  f224:=Tryz.func203.trans (congrArg some (by kernel_rfl))
  t3:=Tryz.underlying3
  a3:=Tryz.isAgg3
  z3:=Tryz.sizeOf3
  v3:=Tryz.zeroValue3 }
open Go.RowKit Go.Lib in
theorem Tryz.bytealg_Cutover (n : Int) (h0 : 0 ≤ n) (h1 : n < 4611686018427387904) (w : World) :
    Calls Tryz.prog 203 #[.int .i64 n] w fun e w'=>e = .returned (.int .i64 ((n + 16) / 8)) ∧ w' = w:=Any.bytealg_Cutover Tryz.lays224 n h0 h1 w
def Tryz.lays314_ren : Go.Shelf.Ren:=⟨fun|314=>213|n=>n,fun|9=>9|51=>304|3=>3|4=>4|5=>5|46=>298|n=>n,fun|n=>n⟩
theorem Tryz.lays314 : Go.Proofs.Lays.n314 Tryz.prog Tryz.lays314_ren:={
  mixed:=by kernel_rfl
  f314:=Tryz.func213.trans (congrArg some (by kernel_rfl))
  t3:=Tryz.underlying3
  a3:=Tryz.isAgg3
  z3:=Tryz.sizeOf3
  v3:=Tryz.zeroValue3
  t4:=Tryz.underlying4
  a4:=Tryz.isAgg4
  z4:=Tryz.sizeOf4
  v4:=Tryz.zeroValue4
  t5:=Tryz.underlying5
  a5:=Tryz.isAgg5
  z5:=Tryz.sizeOf5
  v5:=Tryz.zeroValue5
  t9:=Tryz.underlying9
  a9:=Tryz.isAgg9
  z9:=Tryz.sizeOf9
  v9:=Tryz.zeroValue9
  t46:=Tryz.underlying298
  a46:=Tryz.isAgg298
  z46:=Tryz.sizeOf298
  v46:=Tryz.zeroValue298
  t51:=Tryz.underlying304
  a51:=Tryz.isAgg304
  z51:=Tryz.sizeOf304
  v51:=Tryz.zeroValue304 }
open Go.RowKit Go.Lib in
theorem Tryz.bytealg_hashStr (sep : ByteArray) (hs : sep.size < 4294967281) (w : World) :
    Calls Tryz.prog 213 #[.string sep] w fun e w'=>e = .returned (.tuple #[.int .u32 (RK.H sep.data.toList % 4294967296),.int .u32 (16777619 ^ sep.size % 4294967296)]) ∧ w' = w:=Any.bytealg_hashStr Tryz.lays314 sep hs w
def Tryz.lays267_ren : Go.Shelf.Ren:=⟨fun|267=>204|314=>213|n=>n,fun|9=>9|3=>3|146=>305|51=>304|4=>4|5=>5|46=>298|n=>n,fun|n=>n⟩
theorem Tryz.lays267 : Go.Proofs.Lays.n267 Tryz.prog Tryz.lays267_ren:={
  mixed:=by kernel_rfl
  f267:=Tryz.func204.trans (congrArg some (by kernel_rfl))
  f314:=Tryz.func213.trans (congrArg some (by kernel_rfl))
  t3:=Tryz.underlying3
  a3:=Tryz.isAgg3
  z3:=Tryz.sizeOf3
  v3:=Tryz.zeroValue3
  t4:=Tryz.underlying4
  a4:=Tryz.isAgg4
  z4:=Tryz.sizeOf4
  v4:=Tryz.zeroValue4
  t5:=Tryz.underlying5
  a5:=Tryz.isAgg5
  z5:=Tryz.sizeOf5
  v5:=Tryz.zeroValue5
  t9:=Tryz.underlying9
  a9:=Tryz.isAgg9
  z9:=Tryz.sizeOf9
  v9:=Tryz.zeroValue9
  t46:=Tryz.underlying298
  a46:=Tryz.isAgg298
  z46:=Tryz.sizeOf298
  v46:=Tryz.zeroValue298
  t51:=Tryz.underlying304
  a51:=Tryz.isAgg304
  z51:=Tryz.sizeOf304
  v51:=Tryz.zeroValue304
  t146:=Tryz.underlying305
  a146:=Tryz.isAgg305
  z146:=Tryz.sizeOf305
  v146:=Tryz.zeroValue305 }
open Go.RowKit Go.Lib in
theorem Tryz.bytealg_IndexRabinKarp (s sep : ByteArray) (h1 : 1 ≤ sep.size) (h2 : sep.size ≤ s.size) (hs : s.size < 4294967281) (w : World) :
    Calls Tryz.prog 204 #[.string s,.string sep] w fun e w'=>e = .returned (.int .i64 (Lib.index s.data.toList sep.data.toList)) ∧ w' = w:=Any.bytealg_IndexRabinKarp Tryz.lays267 s sep h1 h2 hs w
def Tryz.lays219_ren : Go.Shelf.Ren:=⟨fun|219=>181|217=>201|225=>202|224=>203|267=>204|266=>212|314=>213|n=>n,fun|9=>9|3=>3|4=>4|5=>5|46=>298|146=>305|51=>304|n=>n,fun|1=>1|n=>n⟩
theorem Tryz.lays219 : Go.Proofs.Lays.n219 Tryz.prog Tryz.lays219_ren:={
  mixed:=by kernel_rfl
  f217:=Tryz.func201.trans (congrArg some (by kernel_rfl))
  f219:=Tryz.func181.trans (congrArg some (by kernel_rfl))
  f224:=Tryz.func203.trans (congrArg some (by kernel_rfl))
  f225:=Tryz.func202.trans (congrArg some (by kernel_rfl))
  f266:=Tryz.func212.trans (congrArg some (by kernel_rfl))
  f267:=Tryz.func204.trans (congrArg some (by kernel_rfl))
  f314:=Tryz.func213.trans (congrArg some (by kernel_rfl))
  t3:=Tryz.underlying3
  a3:=Tryz.isAgg3
  z3:=Tryz.sizeOf3
  v3:=Tryz.zeroValue3
  t4:=Tryz.underlying4
  a4:=Tryz.isAgg4
  z4:=Tryz.sizeOf4
  v4:=Tryz.zeroValue4
  t5:=Tryz.underlying5
  a5:=Tryz.isAgg5
  z5:=Tryz.sizeOf5
  v5:=Tryz.zeroValue5
  t9:=Tryz.underlying9
  a9:=Tryz.isAgg9
  z9:=Tryz.sizeOf9
  v9:=Tryz.zeroValue9
  t46:=Tryz.underlying298
  a46:=Tryz.isAgg298
  z46:=Tryz.sizeOf298
  v46:=Tryz.zeroValue298
  t51:=Tryz.underlying304
  a51:=Tryz.isAgg304
  z51:=Tryz.sizeOf304
  v51:=Tryz.zeroValue304
  t146:=Tryz.underlying305
  a146:=Tryz.isAgg305
  z146:=Tryz.sizeOf305
  v146:=Tryz.zeroValue305
  g1:=by kernel_rfl }
open Go.RowKit Go.Lib in
theorem Tryz.stringslite_Index_one (s : ByteArray) (c : UInt8) (w : World) :
    Calls Tryz.prog 181 #[.string s,.string ⟨#[c]⟩] w fun e w'=>e = .returned (.int .i64 (Lib.indexByte s.data.toList c)) ∧ w' = w:=Any.stringslite_Index_one Tryz.lays219 s c w
open Go.RowKit Go.Lib in
theorem Tryz.stringslite_Index (s sub : ByteArray) (m : Int) (w : World) (hs : s.size < 4294967281) (hm : w.cell? ⟨1,0,none⟩ = some (.int .i64 m)) :
    Calls Tryz.prog 181 #[.string s,.string sub] w fun e w'=>e = .returned (.int .i64 (Lib.index s.data.toList sub.data.toList)) ∧ w' = w:=Any.stringslite_Index Tryz.lays219 s sub m w hs hm
def Tryz.lays143_ren : Go.Shelf.Ren:=⟨fun|143=>182|219=>181|217=>201|225=>202|224=>203|267=>204|266=>212|314=>213|n=>n,fun|9=>9|3=>3|4=>4|5=>5|46=>298|146=>305|51=>304|n=>n,fun|1=>1|n=>n⟩
theorem Tryz.lays143 : Go.Proofs.Lays.n143 Tryz.prog Tryz.lays143_ren:={
  mixed:=by kernel_rfl
  f143:=Tryz.func182.trans (congrArg some (by kernel_rfl))
  f217:=Tryz.func201.trans (congrArg some (by kernel_rfl))
  f219:=Tryz.func181.trans (congrArg some (by kernel_rfl))
  f224:=Tryz.func203.trans (congrArg some (by kernel_rfl))
  f225:=Tryz.func202.trans (congrArg some (by kernel_rfl))
  f266:=Tryz.func212.trans (congrArg some (by kernel_rfl))
  f267:=Tryz.func204.trans (congrArg some (by kernel_rfl))
  f314:=Tryz.func213.trans (congrArg some (by kernel_rfl))
  t3:=Tryz.underlying3
  a3:=Tryz.isAgg3
  z3:=Tryz.sizeOf3
  v3:=Tryz.zeroValue3
  t4:=Tryz.underlying4
  a4:=Tryz.isAgg4
  z4:=Tryz.sizeOf4
  v4:=Tryz.zeroValue4
  t5:=Tryz.underlying5
  a5:=Tryz.isAgg5
  z5:=Tryz.sizeOf5
  v5:=Tryz.zeroValue5
  t9:=Tryz.underlying9
  a9:=Tryz.isAgg9
  z9:=Tryz.sizeOf9
  v9:=Tryz.zeroValue9
  t46:=Tryz.underlying298
  a46:=Tryz.isAgg298
  z46:=Tryz.sizeOf298
  v46:=Tryz.zeroValue298
  t51:=Tryz.underlying304
  a51:=Tryz.isAgg304
  z51:=Tryz.sizeOf304
  v51:=Tryz.zeroValue304
  t146:=Tryz.underlying305
  a146:=Tryz.isAgg305
  z146:=Tryz.sizeOf305
  v146:=Tryz.zeroValue305
  g1:=by kernel_rfl }
open Go.RowKit Go.Lib in
theorem Tryz.strings_Index_one (s : ByteArray) (c : UInt8) (w : World) :
    Calls Tryz.prog 182 #[.string s,.string ⟨#[c]⟩] w fun e w'=>e = .returned (.int .i64 (Lib.indexByte s.data.toList c)) ∧ w' = w:=Any.strings_Index_one Tryz.lays143 s c w
open Go.RowKit Go.Lib in
theorem Tryz.strings_Index (s sub : ByteArray) (m : Int) (w : World) (hs : s.size < 4294967281) (hm : w.cell? ⟨1,0,none⟩ = some (.int .i64 m)) :
    Calls Tryz.prog 182 #[.string s,.string sub] w fun e w'=>e = .returned (.int .i64 (Lib.index s.data.toList sub.data.toList)) ∧ w' = w:=Any.strings_Index Tryz.lays143 s sub m w hs hm
def Tryz.lays144_ren : Go.Shelf.Ren:=⟨fun|144=>163|143=>182|219=>181|217=>201|225=>202|224=>203|267=>204|266=>212|314=>213|n=>n,fun|9=>9|4=>4|3=>3|5=>5|46=>298|146=>305|51=>304|n=>n,fun|1=>1|n=>n⟩
theorem Tryz.lays144 : Go.Proofs.Lays.n144 Tryz.prog Tryz.lays144_ren:={
  mixed:=by kernel_rfl
  f143:=Tryz.func182.trans (congrArg some (by kernel_rfl))
  f144:=Tryz.func163.trans (congrArg some (by kernel_rfl))
  f217:=Tryz.func201.trans (congrArg some (by kernel_rfl))
  f219:=Tryz.func181.trans (congrArg some (by kernel_rfl))
  f224:=Tryz.func203.trans (congrArg some (by kernel_rfl))
  f225:=Tryz.func202.trans (congrArg some (by kernel_rfl))
  f266:=Tryz.func212.trans (congrArg some (by kernel_rfl))
  f267:=Tryz.func204.trans (congrArg some (by kernel_rfl))
  f314:=Tryz.func213.trans (congrArg some (by kernel_rfl))
  t3:=Tryz.underlying3
  a3:=Tryz.isAgg3
  z3:=Tryz.sizeOf3
  v3:=Tryz.zeroValue3
  t4:=Tryz.underlying4
  a4:=Tryz.isAgg4
  z4:=Tryz.sizeOf4
  v4:=Tryz.zeroValue4
  t5:=Tryz.underlying5
  a5:=Tryz.isAgg5
  z5:=Tryz.sizeOf5
  v5:=Tryz.zeroValue5
  t9:=Tryz.underlying9
  a9:=Tryz.isAgg9
  z9:=Tryz.sizeOf9
  v9:=Tryz.zeroValue9
  t46:=Tryz.underlying298
  a46:=Tryz.isAgg298
  z46:=Tryz.sizeOf298
  v46:=Tryz.zeroValue298
  t51:=Tryz.underlying304
  a51:=Tryz.isAgg304
  z51:=Tryz.sizeOf304
  v51:=Tryz.zeroValue304
  t146:=Tryz.underlying305
  a146:=Tryz.isAgg305
  z146:=Tryz.sizeOf305
  v146:=Tryz.zeroValue305
  g1:=by kernel_rfl }
open Go.RowKit Go.Lib in
theorem Tryz.strings_Contains_one (s : ByteArray) (c : UInt8) (w : World) :
    Calls Tryz.prog 163 #[.string s,.string ⟨#[c]⟩] w fun e w'=>e = .returned (.bool (decide (0 ≤ Lib.indexByte s.data.toList c))) ∧ w' = w:=Any.strings_Contains_one Tryz.lays144 s c w
open Go.RowKit Go.Lib in
theorem Tryz.strings_Contains (s sub : ByteArray) (m : Int) (w : World) (hs : s.size < 4294967281) (hm : w.cell? ⟨1,0,none⟩ = some (.int .i64 m)) :
    Calls Tryz.prog 163 #[.string s,.string sub] w fun e w'=>e = .returned (.bool (Lib.contains s.data.toList sub.data.toList)) ∧ w' = w:=Any.strings_Contains Tryz.lays144 s sub m w hs hm
def Tryz.lays220_ren : Go.Shelf.Ren:=⟨fun|220=>162|219=>181|217=>201|225=>202|224=>203|267=>204|266=>212|314=>213|n=>n,fun|9=>9|4=>4|3=>3|5=>5|46=>298|146=>305|51=>304|n=>n,fun|1=>1|n=>n⟩
theorem Tryz.lays220 : Go.Proofs.Lays.n220 Tryz.prog Tryz.lays220_ren:={
  mixed:=by kernel_rfl
  f217:=Tryz.func201.trans (congrArg some (by kernel_rfl))
  f219:=Tryz.func181.trans (congrArg some (by kernel_rfl))
  f220:=Tryz.func162.trans (congrArg some (by kernel_rfl))
  f224:=Tryz.func203.trans (congrArg some (by kernel_rfl))
  f225:=Tryz.func202.trans (congrArg some (by kernel_rfl))
  f266:=Tryz.func212.trans (congrArg some (by kernel_rfl))
  f267:=Tryz.func204.trans (congrArg some (by kernel_rfl))
  f314:=Tryz.func213.trans (congrArg some (by kernel_rfl))
  t3:=Tryz.underlying3
  a3:=Tryz.isAgg3
  z3:=Tryz.sizeOf3
  v3:=Tryz.zeroValue3
  t4:=Tryz.underlying4
  a4:=Tryz.isAgg4
  z4:=Tryz.sizeOf4
  v4:=Tryz.zeroValue4
  t5:=Tryz.underlying5
  a5:=Tryz.isAgg5
  z5:=Tryz.sizeOf5
  v5:=Tryz.zeroValue5
  t9:=Tryz.underlying9
  a9:=Tryz.isAgg9
  z9:=Tryz.sizeOf9
  v9:=Tryz.zeroValue9
  t46:=Tryz.underlying298
  a46:=Tryz.isAgg298
  z46:=Tryz.sizeOf298
  v46:=Tryz.zeroValue298
  t51:=Tryz.underlying304
  a51:=Tryz.isAgg304
  z51:=Tryz.sizeOf304
  v51:=Tryz.zeroValue304
  t146:=Tryz.underlying305
  a146:=Tryz.isAgg305
  z146:=Tryz.sizeOf305
  v146:=Tryz.zeroValue305
  g1:=by kernel_rfl }
open Go.RowKit Go.Lib in
theorem Tryz.stringslite_Cut (s sep : ByteArray) (m : Int) (w : World) (hs : s.size < 4294967281) (hm : w.cell? ⟨1,0,none⟩ = some (.int .i64 m)) :
    Calls Tryz.prog 162 #[.string s,.string sep] w fun e w'=>e = .returned (.tuple #[.string ⟨(Lib.cut s.data.toList sep.data.toList).1.toArray⟩,.string ⟨(Lib.cut s.data.toList sep.data.toList).2.1.toArray⟩,.bool (Lib.cut s.data.toList sep.data.toList).2.2]) ∧ ∃ n,w' = w.drewN n:=Any.stringslite_Cut Tryz.lays220 s sep m w hs hm
def Tryz.lays145_ren : Go.Shelf.Ren:=⟨fun|145=>137|220=>162|219=>181|217=>201|225=>202|224=>203|267=>204|266=>212|314=>213|n=>n,fun|9=>9|4=>4|59=>223|3=>3|5=>5|46=>298|146=>305|51=>304|n=>n,fun|1=>1|n=>n⟩
theorem Tryz.lays145 : Go.Proofs.Lays.n145 Tryz.prog Tryz.lays145_ren:={
  mixed:=by kernel_rfl
  f145:=Tryz.func137.trans (congrArg some (by kernel_rfl))
  f217:=Tryz.func201.trans (congrArg some (by kernel_rfl))
  f219:=Tryz.func181.trans (congrArg some (by kernel_rfl))
  f220:=Tryz.func162.trans (congrArg some (by kernel_rfl))
  f224:=Tryz.func203.trans (congrArg some (by kernel_rfl))
  f225:=Tryz.func202.trans (congrArg some (by kernel_rfl))
  f266:=Tryz.func212.trans (congrArg some (by kernel_rfl))
  f267:=Tryz.func204.trans (congrArg some (by kernel_rfl))
  f314:=Tryz.func213.trans (congrArg some (by kernel_rfl))
  t3:=Tryz.underlying3
  a3:=Tryz.isAgg3
  z3:=Tryz.sizeOf3
  v3:=Tryz.zeroValue3
  t4:=Tryz.underlying4
  a4:=Tryz.isAgg4
  z4:=Tryz.sizeOf4
  v4:=Tryz.zeroValue4
  t5:=Tryz.underlying5
  a5:=Tryz.isAgg5
  z5:=Tryz.sizeOf5
  v5:=Tryz.zeroValue5
  t9:=Tryz.underlying9
  a9:=Tryz.isAgg9
  z9:=Tryz.sizeOf9
  v9:=Tryz.zeroValue9
  t46:=Tryz.underlying298
  a46:=Tryz.isAgg298
  z46:=Tryz.sizeOf298
  v46:=Tryz.zeroValue298
  t51:=Tryz.underlying304
  a51:=Tryz.isAgg304
  z51:=Tryz.sizeOf304
  v51:=Tryz.zeroValue304
  t59:=Tryz.underlying223
  a59:=Tryz.isAgg223
  z59:=Tryz.sizeOf223
  v59:=Tryz.zeroValue223
  t146:=Tryz.underlying305
  a146:=Tryz.isAgg305
  z146:=Tryz.sizeOf305
  v146:=Tryz.zeroValue305
  g1:=by kernel_rfl }
open Go.RowKit Go.Lib in
theorem Tryz.strings_Cut (s sep : ByteArray) (m : Int) (w : World) (hs : s.size < 4294967281) (hm : w.cell? ⟨1,0,none⟩ = some (.int .i64 m)) :
    Calls Tryz.prog 137 #[.string s,.string sep] w fun e w'=>e = .returned (.tuple #[.string ⟨(Lib.cut s.data.toList sep.data.toList).1.toArray⟩,.string ⟨(Lib.cut s.data.toList sep.data.toList).2.1.toArray⟩,.bool (Lib.cut s.data.toList sep.data.toList).2.2]) ∧ ∃ n,w' = w.drewN n:=Any.strings_Cut Tryz.lays145 s sep m w hs hm
def Tryz.lays138_ren : Go.Shelf.Ren:=⟨fun|138=>218|195=>221|218=>222|143=>182|219=>181|217=>201|225=>202|224=>203|267=>204|266=>212|314=>213|n=>n,fun|9=>9|3=>3|4=>4|5=>5|0=>0|46=>298|146=>305|51=>304|n=>n,fun|1=>1|n=>n⟩
theorem Tryz.lays138 : Go.Proofs.Lays.n138 Tryz.prog Tryz.lays138_ren:={
  mixed:=by kernel_rfl
  f138:=Tryz.func218.trans (congrArg some (by kernel_rfl))
  f143:=Tryz.func182.trans (congrArg some (by kernel_rfl))
  f195:=Tryz.func221.trans (congrArg some (by kernel_rfl))
  f217:=Tryz.func201.trans (congrArg some (by kernel_rfl))
  f218:=Tryz.func222.trans (congrArg some (by kernel_rfl))
  f219:=Tryz.func181.trans (congrArg some (by kernel_rfl))
  f224:=Tryz.func203.trans (congrArg some (by kernel_rfl))
  f225:=Tryz.func202.trans (congrArg some (by kernel_rfl))
  f266:=Tryz.func212.trans (congrArg some (by kernel_rfl))
  f267:=Tryz.func204.trans (congrArg some (by kernel_rfl))
  f314:=Tryz.func213.trans (congrArg some (by kernel_rfl))
  t0:=Tryz.underlying0
  a0:=Tryz.isAgg0
  z0:=Tryz.sizeOf0
  v0:=Tryz.zeroValue0
  t3:=Tryz.underlying3
  a3:=Tryz.isAgg3
  z3:=Tryz.sizeOf3
  v3:=Tryz.zeroValue3
  t4:=Tryz.underlying4
  a4:=Tryz.isAgg4
  z4:=Tryz.sizeOf4
  v4:=Tryz.zeroValue4
  t5:=Tryz.underlying5
  a5:=Tryz.isAgg5
  z5:=Tryz.sizeOf5
  v5:=Tryz.zeroValue5
  t9:=Tryz.underlying9
  a9:=Tryz.isAgg9
  z9:=Tryz.sizeOf9
  v9:=Tryz.zeroValue9
  t46:=Tryz.underlying298
  a46:=Tryz.isAgg298
  z46:=Tryz.sizeOf298
  v46:=Tryz.zeroValue298
  t51:=Tryz.underlying304
  a51:=Tryz.isAgg304
  z51:=Tryz.sizeOf304
  v51:=Tryz.zeroValue304
  t146:=Tryz.underlying305
  a146:=Tryz.isAgg305
  z146:=Tryz.sizeOf305
  v146:=Tryz.zeroValue305
  g1:=by kernel_rfl }
open Go.RowKit Go.Lib in
theorem Tryz.strings_Count_one (s : ByteArray) (c : UInt8) (w : World) :
    Calls Tryz.prog 218 #[.string s,.string ⟨#[c]⟩] w fun e w'=>e = .returned (.int .i64 (Lib.countByte s.data.toList c)) ∧ w' = w:=Any.strings_Count_one Tryz.lays138 s c w
open Go.RowKit Go.Lib in
theorem Tryz.strings_Count (s sub : ByteArray) (m : Int) (w : World) (hs : s.size < 4294967281) (hm : w.cell? ⟨1,0,none⟩ = some (.int .i64 m)) (h2 : 2 ≤ sub.size) :
    Calls Tryz.prog 218 #[.string s,.string sub] w fun e w'=>e = .returned (.int .i64 (Lib.countB s sub)) ∧ w' = w:=Any.strings_Count Tryz.lays138 s sub m w hs hm h2
def Tryz.laysM219_ren : Go.Shelf.Ren:=⟨fun|219=>181|217=>201|225=>202|224=>203|267=>204|266=>212|314=>213|n=>n,fun|9=>9|3=>3|4=>4|5=>5|46=>298|146=>305|51=>304|n=>n,fun|1=>1|n=>n⟩
theorem Tryz.laysM219 : Go.Proofs.LaysM.n219 Tryz.prog Tryz.laysM219_ren:={
  mixed:=by kernel_rfl
  f217:=Tryz.func201.trans (congrArg some (by kernel_rfl))
  f219:=Tryz.func181.trans (congrArg some (by kernel_rfl))
  f224:=Tryz.func203.trans (congrArg some (by kernel_rfl))
  f225:=Tryz.func202.trans (congrArg some (by kernel_rfl))
  f266:=Tryz.func212.trans (congrArg some (by kernel_rfl))
  f267:=Tryz.func204.trans (congrArg some (by kernel_rfl))
  f314:=Tryz.func213.trans (congrArg some (by kernel_rfl))
  t3:=Tryz.underlying3
  a3:=Tryz.isAgg3
  z3:=Tryz.sizeOf3
  v3:=Tryz.zeroValue3
  t4:=Tryz.underlying4
  a4:=Tryz.isAgg4
  z4:=Tryz.sizeOf4
  v4:=Tryz.zeroValue4
  t5:=Tryz.underlying5
  a5:=Tryz.isAgg5
  z5:=Tryz.sizeOf5
  v5:=Tryz.zeroValue5
  t9:=Tryz.underlying9
  a9:=Tryz.isAgg9
  z9:=Tryz.sizeOf9
  v9:=Tryz.zeroValue9
  t46:=Tryz.underlying298
  a46:=Tryz.isAgg298
  z46:=Tryz.sizeOf298
  v46:=Tryz.zeroValue298
  t51:=Tryz.underlying304
  a51:=Tryz.isAgg304
  z51:=Tryz.sizeOf304
  v51:=Tryz.zeroValue304
  t146:=Tryz.underlying305
  a146:=Tryz.isAgg305
  z146:=Tryz.sizeOf305
  v146:=Tryz.zeroValue305
  g1:=by kernel_rfl
  i3:=by kernel_rfl
  i4:=by kernel_rfl
  i5:=by kernel_rfl
  i9:=by kernel_rfl
  i46:=by kernel_rfl
  i51:=by kernel_rfl
  i146:=by kernel_rfl
  m1:=by kernel_rfl
  s1_3:=fun w h=>Go.Proofs.cell_of_shapedOpen_int (zero:=#[.int .i64 0]) (t:=3) h (of_decide_eq_true (by kernel_rfl)) (by kernel_rfl) rfl (by kernel_rfl) (by kernel_rfl) Tryz.underlying3 }
open Go.RowKit Go.Lib in
theorem Tryz.stringslite_Index_shaped (s sub : ByteArray) (w : World) (h : w.ShapedOpen Tryz.prog) (hs : s.size < 4294967281) :
    Calls Tryz.prog 181 #[.string s,.string sub] w fun e w'=>e = .returned (.int .i64 (Lib.index s.data.toList sub.data.toList)) ∧ w' = w:=Any.stringslite_Index_shaped Tryz.laysM219 s sub w h hs
def Tryz.laysM143_ren : Go.Shelf.Ren:=⟨fun|143=>182|219=>181|217=>201|225=>202|224=>203|267=>204|266=>212|314=>213|n=>n,fun|9=>9|3=>3|4=>4|5=>5|46=>298|146=>305|51=>304|n=>n,fun|1=>1|n=>n⟩
theorem Tryz.laysM143 : Go.Proofs.LaysM.n143 Tryz.prog Tryz.laysM143_ren:={
  mixed:=by kernel_rfl
  f143:=Tryz.func182.trans (congrArg some (by kernel_rfl))
  f217:=Tryz.func201.trans (congrArg some (by kernel_rfl))
  f219:=Tryz.func181.trans (congrArg some (by kernel_rfl))
  f224:=Tryz.func203.trans (congrArg some (by kernel_rfl))
  f225:=Tryz.func202.trans (congrArg some (by kernel_rfl))
  f266:=Tryz.func212.trans (congrArg some (by kernel_rfl))
  f267:=Tryz.func204.trans (congrArg some (by kernel_rfl))
  f314:=Tryz.func213.trans (congrArg some (by kernel_rfl))
  t3:=Tryz.underlying3
  a3:=Tryz.isAgg3
  z3:=Tryz.sizeOf3
  v3:=Tryz.zeroValue3
  t4:=Tryz.underlying4
  a4:=Tryz.isAgg4
  z4:=Tryz.sizeOf4
  v4:=Tryz.zeroValue4
  t5:=Tryz.underlying5
  a5:=Tryz.isAgg5
  z5:=Tryz.sizeOf5
  v5:=Tryz.zeroValue5
  t9:=Tryz.underlying9
  a9:=Tryz.isAgg9
  z9:=Tryz.sizeOf9
  v9:=Tryz.zeroValue9
  t46:=Tryz.underlying298
  a46:=Tryz.isAgg298
  z46:=Tryz.sizeOf298
  v46:=Tryz.zeroValue298
  t51:=Tryz.underlying304
  a51:=Tryz.isAgg304
  z51:=Tryz.sizeOf304
  v51:=Tryz.zeroValue304
  t146:=Tryz.underlying305
  a146:=Tryz.isAgg305
  z146:=Tryz.sizeOf305
  v146:=Tryz.zeroValue305
  g1:=by kernel_rfl
  i3:=by kernel_rfl
  i4:=by kernel_rfl
  i5:=by kernel_rfl
  i9:=by kernel_rfl
  i46:=by kernel_rfl
  i51:=by kernel_rfl
  i146:=by kernel_rfl
  m1:=by kernel_rfl
  s1_3:=fun w h=>Go.Proofs.cell_of_shapedOpen_int (zero:=#[.int .i64 0]) (t:=3) h (of_decide_eq_true (by kernel_rfl)) (by kernel_rfl) rfl (by kernel_rfl) (by kernel_rfl) Tryz.underlying3 }
open Go.RowKit Go.Lib in
theorem Tryz.strings_Index_shaped (s sub : ByteArray) (w : World) (h : w.ShapedOpen Tryz.prog) (hs : s.size < 4294967281) :
    Calls Tryz.prog 182 #[.string s,.string sub] w fun e w'=>e = .returned (.int .i64 (Lib.index s.data.toList sub.data.toList)) ∧ w' = w:=Any.strings_Index_shaped Tryz.laysM143 s sub w h hs
def Tryz.laysM144_ren : Go.Shelf.Ren:=⟨fun|144=>163|143=>182|219=>181|217=>201|225=>202|224=>203|267=>204|266=>212|314=>213|n=>n,fun|9=>9|4=>4|3=>3|5=>5|46=>298|146=>305|51=>304|n=>n,fun|1=>1|n=>n⟩
theorem Tryz.laysM144 : Go.Proofs.LaysM.n144 Tryz.prog Tryz.laysM144_ren:={
  mixed:=by kernel_rfl
  f143:=Tryz.func182.trans (congrArg some (by kernel_rfl))
  f144:=Tryz.func163.trans (congrArg some (by kernel_rfl))
  f217:=Tryz.func201.trans (congrArg some (by kernel_rfl))
  f219:=Tryz.func181.trans (congrArg some (by kernel_rfl))
  f224:=Tryz.func203.trans (congrArg some (by kernel_rfl))
  f225:=Tryz.func202.trans (congrArg some (by kernel_rfl))
  f266:=Tryz.func212.trans (congrArg some (by kernel_rfl))
  f267:=Tryz.func204.trans (congrArg some (by kernel_rfl))
  f314:=Tryz.func213.trans (congrArg some (by kernel_rfl))
  t3:=Tryz.underlying3
  a3:=Tryz.isAgg3
  z3:=Tryz.sizeOf3
  v3:=Tryz.zeroValue3
  t4:=Tryz.underlying4
  a4:=Tryz.isAgg4
  z4:=Tryz.sizeOf4
  v4:=Tryz.zeroValue4
  t5:=Tryz.underlying5
  a5:=Tryz.isAgg5
  z5:=Tryz.sizeOf5
  v5:=Tryz.zeroValue5
  t9:=Tryz.underlying9
  a9:=Tryz.isAgg9
  z9:=Tryz.sizeOf9
  v9:=Tryz.zeroValue9
  t46:=Tryz.underlying298
  a46:=Tryz.isAgg298
  z46:=Tryz.sizeOf298
  v46:=Tryz.zeroValue298
  t51:=Tryz.underlying304
  a51:=Tryz.isAgg304
  z51:=Tryz.sizeOf304
  v51:=Tryz.zeroValue304
  t146:=Tryz.underlying305
  a146:=Tryz.isAgg305
  z146:=Tryz.sizeOf305
  v146:=Tryz.zeroValue305
  g1:=by kernel_rfl
  i3:=by kernel_rfl
  i4:=by kernel_rfl
  i5:=by kernel_rfl
  i9:=by kernel_rfl
  i46:=by kernel_rfl
  i51:=by kernel_rfl
  i146:=by kernel_rfl
  m1:=by kernel_rfl
  s1_3:=fun w h=>Go.Proofs.cell_of_shapedOpen_int (zero:=#[.int .i64 0]) (t:=3) h (of_decide_eq_true (by kernel_rfl)) (by kernel_rfl) rfl (by kernel_rfl) (by kernel_rfl) Tryz.underlying3 }
open Go.RowKit Go.Lib in
theorem Tryz.strings_Contains_shaped (s sub : ByteArray) (w : World) (h : w.ShapedOpen Tryz.prog) (hs : s.size < 4294967281) :
    Calls Tryz.prog 163 #[.string s,.string sub] w fun e w'=>e = .returned (.bool (Lib.contains s.data.toList sub.data.toList)) ∧ w' = w:=Any.strings_Contains_shaped Tryz.laysM144 s sub w h hs
def Tryz.laysM220_ren : Go.Shelf.Ren:=⟨fun|220=>162|219=>181|217=>201|225=>202|224=>203|267=>204|266=>212|314=>213|n=>n,fun|9=>9|4=>4|3=>3|5=>5|46=>298|146=>305|51=>304|n=>n,fun|1=>1|n=>n⟩
theorem Tryz.laysM220 : Go.Proofs.LaysM.n220 Tryz.prog Tryz.laysM220_ren:={
  mixed:=by kernel_rfl
  f217:=Tryz.func201.trans (congrArg some (by kernel_rfl))
  f219:=Tryz.func181.trans (congrArg some (by kernel_rfl))
  f220:=Tryz.func162.trans (congrArg some (by kernel_rfl))
  f224:=Tryz.func203.trans (congrArg some (by kernel_rfl))
  f225:=Tryz.func202.trans (congrArg some (by kernel_rfl))
  f266:=Tryz.func212.trans (congrArg some (by kernel_rfl))
  f267:=Tryz.func204.trans (congrArg some (by kernel_rfl))
  f314:=Tryz.func213.trans (congrArg some (by kernel_rfl))
  t3:=Tryz.underlying3
  a3:=Tryz.isAgg3
  z3:=Tryz.sizeOf3
  v3:=Tryz.zeroValue3
  t4:=Tryz.underlying4
  a4:=Tryz.isAgg4
  z4:=Tryz.sizeOf4
  v4:=Tryz.zeroValue4
  t5:=Tryz.underlying5
  a5:=Tryz.isAgg5
  z5:=Tryz.sizeOf5
  v5:=Tryz.zeroValue5
  t9:=Tryz.underlying9
  a9:=Tryz.isAgg9
  z9:=Tryz.sizeOf9
  v9:=Tryz.zeroValue9
  t46:=Tryz.underlying298
  a46:=Tryz.isAgg298
  z46:=Tryz.sizeOf298
  v46:=Tryz.zeroValue298
  t51:=Tryz.underlying304
  a51:=Tryz.isAgg304
  z51:=Tryz.sizeOf304
  v51:=Tryz.zeroValue304
  t146:=Tryz.underlying305
  a146:=Tryz.isAgg305
  z146:=Tryz.sizeOf305
  v146:=Tryz.zeroValue305
  g1:=by kernel_rfl
  i3:=by kernel_rfl
  i4:=by kernel_rfl
  i5:=by kernel_rfl
  i9:=by kernel_rfl
  i46:=by kernel_rfl
  i51:=by kernel_rfl
  i146:=by kernel_rfl
  m1:=by kernel_rfl
  s1_3:=fun w h=>Go.Proofs.cell_of_shapedOpen_int (zero:=#[.int .i64 0]) (t:=3) h (of_decide_eq_true (by kernel_rfl)) (by kernel_rfl) rfl (by kernel_rfl) (by kernel_rfl) Tryz.underlying3 }
open Go.RowKit Go.Lib in
theorem Tryz.stringslite_Cut_shaped (s sep : ByteArray) (w : World) (h : w.ShapedOpen Tryz.prog) (hs : s.size < 4294967281) :
    Calls Tryz.prog 162 #[.string s,.string sep] w fun e w'=>e = .returned (.tuple #[.string ⟨(Lib.cut s.data.toList sep.data.toList).1.toArray⟩,.string ⟨(Lib.cut s.data.toList sep.data.toList).2.1.toArray⟩,.bool (Lib.cut s.data.toList sep.data.toList).2.2]) ∧ ∃ n,w' = w.drewN n:=Any.stringslite_Cut_shaped Tryz.laysM220 s sep w h hs
def Tryz.laysM145_ren : Go.Shelf.Ren:=⟨fun|145=>137|220=>162|219=>181|217=>201|225=>202|224=>203|267=>204|266=>212|314=>213|n=>n,fun|9=>9|4=>4|59=>223|3=>3|5=>5|46=>298|146=>305|51=>304|n=>n,fun|1=>1|n=>n⟩
theorem Tryz.laysM145 : Go.Proofs.LaysM.n145 Tryz.prog Tryz.laysM145_ren:={
  mixed:=by kernel_rfl
  f145:=Tryz.func137.trans (congrArg some (by kernel_rfl))
  f217:=Tryz.func201.trans (congrArg some (by kernel_rfl))
  f219:=Tryz.func181.trans (congrArg some (by kernel_rfl))
  f220:=Tryz.func162.trans (congrArg some (by kernel_rfl))
  f224:=Tryz.func203.trans (congrArg some (by kernel_rfl))
  f225:=Tryz.func202.trans (congrArg some (by kernel_rfl))
  f266:=Tryz.func212.trans (congrArg some (by kernel_rfl))
  f267:=Tryz.func204.trans (congrArg some (by kernel_rfl))
  f314:=Tryz.func213.trans (congrArg some (by kernel_rfl))
  t3:=Tryz.underlying3
  a3:=Tryz.isAgg3
  z3:=Tryz.sizeOf3
  v3:=Tryz.zeroValue3
  t4:=Tryz.underlying4
  a4:=Tryz.isAgg4
  z4:=Tryz.sizeOf4
  v4:=Tryz.zeroValue4
  t5:=Tryz.underlying5
  a5:=Tryz.isAgg5
  z5:=Tryz.sizeOf5
  v5:=Tryz.zeroValue5
  t9:=Tryz.underlying9
  a9:=Tryz.isAgg9
  z9:=Tryz.sizeOf9
  v9:=Tryz.zeroValue9
  t46:=Tryz.underlying298
  a46:=Tryz.isAgg298
  z46:=Tryz.sizeOf298
  v46:=Tryz.zeroValue298
  t51:=Tryz.underlying304
  a51:=Tryz.isAgg304
  z51:=Tryz.sizeOf304
  v51:=Tryz.zeroValue304
  t59:=Tryz.underlying223
  a59:=Tryz.isAgg223
  z59:=Tryz.sizeOf223
  v59:=Tryz.zeroValue223
  t146:=Tryz.underlying305
  a146:=Tryz.isAgg305
  z146:=Tryz.sizeOf305
  v146:=Tryz.zeroValue305
  g1:=by kernel_rfl
  i3:=by kernel_rfl
  i4:=by kernel_rfl
  i5:=by kernel_rfl
  i9:=by kernel_rfl
  i46:=by kernel_rfl
  i51:=by kernel_rfl
  i59:=by kernel_rfl
  i146:=by kernel_rfl
  m1:=by kernel_rfl
  s1_3:=fun w h=>Go.Proofs.cell_of_shapedOpen_int (zero:=#[.int .i64 0]) (t:=3) h (of_decide_eq_true (by kernel_rfl)) (by kernel_rfl) rfl (by kernel_rfl) (by kernel_rfl) Tryz.underlying3 }
open Go.RowKit Go.Lib in
theorem Tryz.strings_Cut_shaped (s sep : ByteArray) (w : World) (h : w.ShapedOpen Tryz.prog) (hs : s.size < 4294967281) :
    Calls Tryz.prog 137 #[.string s,.string sep] w fun e w'=>e = .returned (.tuple #[.string ⟨(Lib.cut s.data.toList sep.data.toList).1.toArray⟩,.string ⟨(Lib.cut s.data.toList sep.data.toList).2.1.toArray⟩,.bool (Lib.cut s.data.toList sep.data.toList).2.2]) ∧ ∃ n,w' = w.drewN n:=Any.strings_Cut_shaped Tryz.laysM145 s sep w h hs
def Tryz.laysM138_ren : Go.Shelf.Ren:=⟨fun|138=>218|195=>221|218=>222|143=>182|219=>181|217=>201|225=>202|224=>203|267=>204|266=>212|314=>213|n=>n,fun|9=>9|3=>3|4=>4|5=>5|0=>0|46=>298|146=>305|51=>304|n=>n,fun|1=>1|n=>n⟩
theorem Tryz.laysM138 : Go.Proofs.LaysM.n138 Tryz.prog Tryz.laysM138_ren:={
  mixed:=by kernel_rfl
  f138:=Tryz.func218.trans (congrArg some (by kernel_rfl))
  f143:=Tryz.func182.trans (congrArg some (by kernel_rfl))
  f195:=Tryz.func221.trans (congrArg some (by kernel_rfl))
  f217:=Tryz.func201.trans (congrArg some (by kernel_rfl))
  f218:=Tryz.func222.trans (congrArg some (by kernel_rfl))
  f219:=Tryz.func181.trans (congrArg some (by kernel_rfl))
  f224:=Tryz.func203.trans (congrArg some (by kernel_rfl))
  f225:=Tryz.func202.trans (congrArg some (by kernel_rfl))
  f266:=Tryz.func212.trans (congrArg some (by kernel_rfl))
  f267:=Tryz.func204.trans (congrArg some (by kernel_rfl))
  f314:=Tryz.func213.trans (congrArg some (by kernel_rfl))
  t0:=Tryz.underlying0
  a0:=Tryz.isAgg0
  z0:=Tryz.sizeOf0
  v0:=Tryz.zeroValue0
  t3:=Tryz.underlying3
  a3:=Tryz.isAgg3
  z3:=Tryz.sizeOf3
  v3:=Tryz.zeroValue3
  t4:=Tryz.underlying4
  a4:=Tryz.isAgg4
  z4:=Tryz.sizeOf4
  v4:=Tryz.zeroValue4
  t5:=Tryz.underlying5
  a5:=Tryz.isAgg5
  z5:=Tryz.sizeOf5
  v5:=Tryz.zeroValue5
  t9:=Tryz.underlying9
  a9:=Tryz.isAgg9
  z9:=Tryz.sizeOf9
  v9:=Tryz.zeroValue9
  t46:=Tryz.underlying298
  a46:=Tryz.isAgg298
  z46:=Tryz.sizeOf298
  v46:=Tryz.zeroValue298
  t51:=Tryz.underlying304
  a51:=Tryz.isAgg304
  z51:=Tryz.sizeOf304
  v51:=Tryz.zeroValue304
  t146:=Tryz.underlying305
  a146:=Tryz.isAgg305
  z146:=Tryz.sizeOf305
  v146:=Tryz.zeroValue305
  g1:=by kernel_rfl
  i0:=by kernel_rfl
  i3:=by kernel_rfl
  i4:=by kernel_rfl
  i5:=by kernel_rfl
  i9:=by kernel_rfl
  i46:=by kernel_rfl
  i51:=by kernel_rfl
  i146:=by kernel_rfl
  m1:=by kernel_rfl
  s1_3:=fun w h=>Go.Proofs.cell_of_shapedOpen_int (zero:=#[.int .i64 0]) (t:=3) h (of_decide_eq_true (by kernel_rfl)) (by kernel_rfl) rfl (by kernel_rfl) (by kernel_rfl) Tryz.underlying3 }
open Go.RowKit Go.Lib in
theorem Tryz.strings_Count_shaped (s sub : ByteArray) (w : World) (h : w.ShapedOpen Tryz.prog) (hs : s.size < 4294967281) (h2 : 2 ≤ sub.size) :
    Calls Tryz.prog 218 #[.string s,.string sub] w fun e w'=>e = .returned (.int .i64 (Lib.countB s sub)) ∧ w' = w:=Any.strings_Count_shaped Tryz.laysM138 s sub w h hs h2
def Tryz.lays206_ren : Go.Shelf.Ren:=⟨fun|206=>190|n=>n,fun|9=>9|4=>4|3=>3|n=>n,fun|n=>n⟩
theorem Tryz.lays206 : Go.Proofs.Lays.n206 Tryz.prog Tryz.lays206_ren:={
  mixed:=by kernel_rfl
  f206:=Tryz.func190.trans (congrArg some (by kernel_rfl))
  t3:=Tryz.underlying3
  a3:=Tryz.isAgg3
  z3:=Tryz.sizeOf3
  v3:=Tryz.zeroValue3
  t4:=Tryz.underlying4
  a4:=Tryz.isAgg4
  z4:=Tryz.sizeOf4
  v4:=Tryz.zeroValue4
  t9:=Tryz.underlying9
  a9:=Tryz.isAgg9
  z9:=Tryz.sizeOf9
  v9:=Tryz.zeroValue9 }
open Go.RowKit Go.Lib in
theorem Tryz.stringslite_HasPrefix (s p : ByteArray) (w : World) :
    Calls Tryz.prog 190 #[.string s,.string p] w fun e w'=>e = .returned (.bool (Lib.hasPrefix s.data.toList p.data.toList)) ∧ w' = w:=Any.stringslite_HasPrefix Tryz.lays206 s p w
def Tryz.lays99_ren : Go.Shelf.Ren:=⟨fun|99=>165|206=>190|n=>n,fun|9=>9|4=>4|3=>3|n=>n,fun|n=>n⟩
theorem Tryz.lays99 : Go.Proofs.Lays.n99 Tryz.prog Tryz.lays99_ren:={
  mixed:=by kernel_rfl
  f99:=Tryz.func165.trans (congrArg some (by kernel_rfl))
  f206:=Tryz.func190.trans (congrArg some (by kernel_rfl))
  t3:=Tryz.underlying3
  a3:=Tryz.isAgg3
  z3:=Tryz.sizeOf3
  v3:=Tryz.zeroValue3
  t4:=Tryz.underlying4
  a4:=Tryz.isAgg4
  z4:=Tryz.sizeOf4
  v4:=Tryz.zeroValue4
  t9:=Tryz.underlying9
  a9:=Tryz.isAgg9
  z9:=Tryz.sizeOf9
  v9:=Tryz.zeroValue9 }
open Go.RowKit Go.Lib in
theorem Tryz.strings_HasPrefix (s p : ByteArray) (w : World) :
    Calls Tryz.prog 165 #[.string s,.string p] w fun e w'=>e = .returned (.bool (Lib.hasPrefix s.data.toList p.data.toList)) ∧ w' = w:=Any.strings_HasPrefix Tryz.lays99 s p w
def Tryz.lays208_ren : Go.Shelf.Ren:=⟨fun|208=>209|206=>190|n=>n,fun|9=>9|4=>4|3=>3|n=>n,fun|n=>n⟩
theorem Tryz.lays208 : Go.Proofs.Lays.n208 Tryz.prog Tryz.lays208_ren:={
  mixed:=by kernel_rfl
  f206:=Tryz.func190.trans (congrArg some (by kernel_rfl))
  f208:=Tryz.func209.trans (congrArg some (by kernel_rfl))
  t3:=Tryz.underlying3
  a3:=Tryz.isAgg3
  z3:=Tryz.sizeOf3
  v3:=Tryz.zeroValue3
  t4:=Tryz.underlying4
  a4:=Tryz.isAgg4
  z4:=Tryz.sizeOf4
  v4:=Tryz.zeroValue4
  t9:=Tryz.underlying9
  a9:=Tryz.isAgg9
  z9:=Tryz.sizeOf9
  v9:=Tryz.zeroValue9 }
open Go.RowKit Go.Lib in
theorem Tryz.stringslite_TrimPrefix (s p : ByteArray) (w : World) :
    Calls Tryz.prog 209 #[.string s,.string p] w fun e w'=>e = .returned (.string ⟨(Lib.trimPrefix s.data.toList p.data.toList).toArray⟩) ∧ w' = w:=Any.stringslite_TrimPrefix Tryz.lays208 s p w
def Tryz.lays101_ren : Go.Shelf.Ren:=⟨fun|101=>192|208=>209|206=>190|n=>n,fun|9=>9|4=>4|3=>3|n=>n,fun|n=>n⟩
theorem Tryz.lays101 : Go.Proofs.Lays.n101 Tryz.prog Tryz.lays101_ren:={
  mixed:=by kernel_rfl
  f101:=Tryz.func192.trans (congrArg some (by kernel_rfl))
  f206:=Tryz.func190.trans (congrArg some (by kernel_rfl))
  f208:=Tryz.func209.trans (congrArg some (by kernel_rfl))
  t3:=Tryz.underlying3
  a3:=Tryz.isAgg3
  z3:=Tryz.sizeOf3
  v3:=Tryz.zeroValue3
  t4:=Tryz.underlying4
  a4:=Tryz.isAgg4
  z4:=Tryz.sizeOf4
  v4:=Tryz.zeroValue4
  t9:=Tryz.underlying9
  a9:=Tryz.isAgg9
  z9:=Tryz.sizeOf9
  v9:=Tryz.zeroValue9 }
open Go.RowKit Go.Lib in
theorem Tryz.strings_TrimPrefix (s p : ByteArray) (w : World) :
    Calls Tryz.prog 192 #[.string s,.string p] w fun e w'=>e = .returned (.string ⟨(Lib.trimPrefix s.data.toList p.data.toList).toArray⟩) ∧ w' = w:=Any.strings_TrimPrefix Tryz.lays101 s p w
open Go.RowKit Go.Lib in
theorem Tryz.strings_Count_any (s sep : ByteArray) (m : Int) (w : World) (hs : s.size < 4294967281) (hm : w.cell? ⟨1,0,none⟩ = some (.int .i64 m)) (h1 : 1 ≤ sep.size) :
    Calls Tryz.prog 218 #[.string s,.string sep] w fun e w'=>e = .returned (.int .i64 (Lib.countB s sep)) ∧ w' = w:=Any.strings_Count_any Tryz.lays138 s sep m w hs hm h1
def Tryz.lays221_ren : Go.Shelf.Ren:=⟨fun|221=>211|268=>217|138=>218|143=>182|195=>221|197=>206|218=>222|219=>181|260=>214|217=>201|225=>202|224=>203|267=>204|266=>212|314=>213|n=>n,fun|9=>9|3=>3|31=>173|4=>4|0=>0|105=>299|21=>21|5=>5|46=>298|119=>309|139=>312|138=>311|146=>305|51=>304|n=>n,fun|1=>1|3=>2|4=>3|n=>n⟩
theorem Tryz.lays221 : Go.Proofs.Lays.n221 Tryz.prog Tryz.lays221_ren:={
  mixed:=by kernel_rfl
  f138:=Tryz.func218.trans (congrArg some (by kernel_rfl))
  f143:=Tryz.func182.trans (congrArg some (by kernel_rfl))
  f195:=Tryz.func221.trans (congrArg some (by kernel_rfl))
  f197:=Tryz.func206.trans (congrArg some (by kernel_rfl))
  f217:=Tryz.func201.trans (congrArg some (by kernel_rfl))
  f218:=Tryz.func222.trans (congrArg some (by kernel_rfl))
  f219:=Tryz.func181.trans (congrArg some (by kernel_rfl))
  f221:=Tryz.func211.trans (congrArg some (by kernel_rfl))
  f224:=Tryz.func203.trans (congrArg some (by kernel_rfl))
  f225:=Tryz.func202.trans (congrArg some (by kernel_rfl))
  f260:=Tryz.func214.trans (congrArg some (by kernel_rfl))
  f266:=Tryz.func212.trans (congrArg some (by kernel_rfl))
  f267:=Tryz.func204.trans (congrArg some (by kernel_rfl))
  f268:=Tryz.func217.trans (congrArg some (by kernel_rfl))
  f314:=Tryz.func213.trans (congrArg some (by kernel_rfl))
  t0:=Tryz.underlying0
  a0:=Tryz.isAgg0
  z0:=Tryz.sizeOf0
  v0:=Tryz.zeroValue0
  t3:=Tryz.underlying3
  a3:=Tryz.isAgg3
  z3:=Tryz.sizeOf3
  v3:=Tryz.zeroValue3
  t4:=Tryz.underlying4
  a4:=Tryz.isAgg4
  z4:=Tryz.sizeOf4
  v4:=Tryz.zeroValue4
  t5:=Tryz.underlying5
  a5:=Tryz.isAgg5
  z5:=Tryz.sizeOf5
  v5:=Tryz.zeroValue5
  t9:=Tryz.underlying9
  a9:=Tryz.isAgg9
  z9:=Tryz.sizeOf9
  v9:=Tryz.zeroValue9
  t21:=Tryz.underlying21
  a21:=Tryz.isAgg21
  z21:=Tryz.sizeOf21
  v21:=Tryz.zeroValue21
  t31:=Tryz.underlying173
  a31:=Tryz.isAgg173
  z31:=Tryz.sizeOf173
  v31:=Tryz.zeroValue173
  t46:=Tryz.underlying298
  a46:=Tryz.isAgg298
  z46:=Tryz.sizeOf298
  v46:=Tryz.zeroValue298
  t51:=Tryz.underlying304
  a51:=Tryz.isAgg304
  z51:=Tryz.sizeOf304
  v51:=Tryz.zeroValue304
  t105:=Tryz.underlying299
  a105:=Tryz.isAgg299
  z105:=Tryz.sizeOf299
  v105:=Tryz.zeroValue299
  t119:=Tryz.underlying309
  a119:=Tryz.isAgg309
  z119:=Tryz.sizeOf309
  t138:=Tryz.underlying311
  a138:=Tryz.isAgg311
  z138:=Tryz.sizeOf311
  v138:=Tryz.zeroValue311
  t139:=Tryz.underlying312
  a139:=Tryz.isAgg312
  z139:=Tryz.sizeOf312
  v139:=Tryz.zeroValue312
  t146:=Tryz.underlying305
  a146:=Tryz.isAgg305
  z146:=Tryz.sizeOf305
  v146:=Tryz.zeroValue305
  g1:=by kernel_rfl
  g3:=by kernel_rfl
  g4:=by kernel_rfl }
open Go.RowKit Go.Lib in
theorem Tryz.strings_genSplit (s sep : ByteArray) (sv : Nat) (n : Int) (N : Nat) (m : Int) (w : World) (hs : s.size < 4294967281) (hm : w.cell? ⟨1,0,none⟩ = some (.int .i64 m)) (h1 : 1 ≤ sep.size) (hsv : sv ≤ sep.size) (hn0 : n ≠ 0) (hn63 : n ≤ 9223372036854775807) (hN : (N : Int) = min (if n < 0 then (Lib.countB s sep : Int) + 1 else n) ((s.size : Int) + 1)) :
    Calls Tryz.prog 211 #[.string s,.string sep,.int .i64 sv,.int .i64 n] w fun e w' =>
      e = .returned (.slice (some ⟨w.heap.size,0,none⟩) (Lib.splitB sep sv (N - 1) s).length N) ∧ w' = w.alloc (.cells (Lib.cellsOf (Lib.splitB sep sv (N - 1) s) N) 9):=Any.strings_genSplit Tryz.lays221 (by kernel_rfl) s sep sv n N m w hs hm h1 hsv hn0 hn63 hN
def Tryz.lays146_ren : Go.Shelf.Ren:=⟨fun|146=>195|221=>211|268=>217|138=>218|143=>182|195=>221|197=>206|218=>222|219=>181|260=>214|217=>201|225=>202|224=>203|267=>204|266=>212|314=>213|n=>n,fun|9=>9|31=>173|3=>3|4=>4|0=>0|105=>299|21=>21|5=>5|46=>298|119=>309|139=>312|138=>311|146=>305|51=>304|n=>n,fun|1=>1|3=>2|4=>3|n=>n⟩
theorem Tryz.lays146 : Go.Proofs.Lays.n146 Tryz.prog Tryz.lays146_ren:={
  mixed:=by kernel_rfl
  f138:=Tryz.func218.trans (congrArg some (by kernel_rfl))
  f143:=Tryz.func182.trans (congrArg some (by kernel_rfl))
  f146:=Tryz.func195.trans (congrArg some (by kernel_rfl))
  f195:=Tryz.func221.trans (congrArg some (by kernel_rfl))
  f197:=Tryz.func206.trans (congrArg some (by kernel_rfl))
  f217:=Tryz.func201.trans (congrArg some (by kernel_rfl))
  f218:=Tryz.func222.trans (congrArg some (by kernel_rfl))
  f219:=Tryz.func181.trans (congrArg some (by kernel_rfl))
  f221:=Tryz.func211.trans (congrArg some (by kernel_rfl))
  f224:=Tryz.func203.trans (congrArg some (by kernel_rfl))
  f225:=Tryz.func202.trans (congrArg some (by kernel_rfl))
  f260:=Tryz.func214.trans (congrArg some (by kernel_rfl))
  f266:=Tryz.func212.trans (congrArg some (by kernel_rfl))
  f267:=Tryz.func204.trans (congrArg some (by kernel_rfl))
  f268:=Tryz.func217.trans (congrArg some (by kernel_rfl))
  f314:=Tryz.func213.trans (congrArg some (by kernel_rfl))
  t0:=Tryz.underlying0
  a0:=Tryz.isAgg0
  z0:=Tryz.sizeOf0
  v0:=Tryz.zeroValue0
  t3:=Tryz.underlying3
  a3:=Tryz.isAgg3
  z3:=Tryz.sizeOf3
  v3:=Tryz.zeroValue3
  t4:=Tryz.underlying4
  a4:=Tryz.isAgg4
  z4:=Tryz.sizeOf4
  v4:=Tryz.zeroValue4
  t5:=Tryz.underlying5
  a5:=Tryz.isAgg5
  z5:=Tryz.sizeOf5
  v5:=Tryz.zeroValue5
  t9:=Tryz.underlying9
  a9:=Tryz.isAgg9
  z9:=Tryz.sizeOf9
  v9:=Tryz.zeroValue9
  t21:=Tryz.underlying21
  a21:=Tryz.isAgg21
  z21:=Tryz.sizeOf21
  v21:=Tryz.zeroValue21
  t31:=Tryz.underlying173
  a31:=Tryz.isAgg173
  z31:=Tryz.sizeOf173
  v31:=Tryz.zeroValue173
  t46:=Tryz.underlying298
  a46:=Tryz.isAgg298
  z46:=Tryz.sizeOf298
  v46:=Tryz.zeroValue298
  t51:=Tryz.underlying304
  a51:=Tryz.isAgg304
  z51:=Tryz.sizeOf304
  v51:=Tryz.zeroValue304
  t105:=Tryz.underlying299
  a105:=Tryz.isAgg299
  z105:=Tryz.sizeOf299
  v105:=Tryz.zeroValue299
  t119:=Tryz.underlying309
  a119:=Tryz.isAgg309
  z119:=Tryz.sizeOf309
  t138:=Tryz.underlying311
  a138:=Tryz.isAgg311
  z138:=Tryz.sizeOf311
  v138:=Tryz.zeroValue311
  t139:=Tryz.underlying312
  a139:=Tryz.isAgg312
  z139:=Tryz.sizeOf312
  v139:=Tryz.zeroValue312
  t146:=Tryz.underlying305
  a146:=Tryz.isAgg305
  z146:=Tryz.sizeOf305
  v146:=Tryz.zeroValue305
  g1:=by kernel_rfl
  g3:=by kernel_rfl
  g4:=by kernel_rfl }
open Go.RowKit Go.Lib in
theorem Tryz.strings_Split (s sep : ByteArray) (m : Int) (w : World) (hs : s.size < 4294967281) (hm : w.cell? ⟨1,0,none⟩ = some (.int .i64 m)) (h1 : 1 ≤ sep.size) :
    Calls Tryz.prog 195 #[.string s,.string sep] w fun e w' =>
      e = .returned (.slice (some ⟨w.heap.size,0,none⟩) (Lib.countB s sep + 1) (Lib.countB s sep + 1)) ∧ w' = w.alloc (.cells ((Lib.splitB sep 0 (Lib.countB s sep) s).map Value.string).toArray 9):=Any.strings_Split Tryz.lays146 (by kernel_rfl) s sep m w hs hm h1
def Tryz.laysM146_ren : Go.Shelf.Ren:=⟨fun|146=>195|221=>211|268=>217|138=>218|143=>182|195=>221|197=>206|218=>222|219=>181|260=>214|217=>201|225=>202|224=>203|267=>204|266=>212|314=>213|n=>n,fun|9=>9|31=>173|3=>3|4=>4|0=>0|105=>299|21=>21|5=>5|46=>298|119=>309|139=>312|138=>311|146=>305|51=>304|n=>n,fun|1=>1|3=>2|4=>3|n=>n⟩
theorem Tryz.laysM146 : Go.Proofs.LaysM.n146 Tryz.prog Tryz.laysM146_ren:={
  mixed:=by kernel_rfl
  f138:=Tryz.func218.trans (congrArg some (by kernel_rfl))
  f143:=Tryz.func182.trans (congrArg some (by kernel_rfl))
  f146:=Tryz.func195.trans (congrArg some (by kernel_rfl))
  f195:=Tryz.func221.trans (congrArg some (by kernel_rfl))
  f197:=Tryz.func206.trans (congrArg some (by kernel_rfl))
  f217:=Tryz.func201.trans (congrArg some (by kernel_rfl))
  f218:=Tryz.func222.trans (congrArg some (by kernel_rfl))
  f219:=Tryz.func181.trans (congrArg some (by kernel_rfl))
  f221:=Tryz.func211.trans (congrArg some (by kernel_rfl))
  f224:=Tryz.func203.trans (congrArg some (by kernel_rfl))
  f225:=Tryz.func202.trans (congrArg some (by kernel_rfl))
  f260:=Tryz.func214.trans (congrArg some (by kernel_rfl))
  f266:=Tryz.func212.trans (congrArg some (by kernel_rfl))
  f267:=Tryz.func204.trans (congrArg some (by kernel_rfl))
  f268:=Tryz.func217.trans (congrArg some (by kernel_rfl))
  f314:=Tryz.func213.trans (congrArg some (by kernel_rfl))
  t0:=Tryz.underlying0
  a0:=Tryz.isAgg0
  z0:=Tryz.sizeOf0
  v0:=Tryz.zeroValue0
  t3:=Tryz.underlying3
  a3:=Tryz.isAgg3
  z3:=Tryz.sizeOf3
  v3:=Tryz.zeroValue3
  t4:=Tryz.underlying4
  a4:=Tryz.isAgg4
  z4:=Tryz.sizeOf4
  v4:=Tryz.zeroValue4
  t5:=Tryz.underlying5
  a5:=Tryz.isAgg5
  z5:=Tryz.sizeOf5
  v5:=Tryz.zeroValue5
  t9:=Tryz.underlying9
  a9:=Tryz.isAgg9
  z9:=Tryz.sizeOf9
  v9:=Tryz.zeroValue9
  t21:=Tryz.underlying21
  a21:=Tryz.isAgg21
  z21:=Tryz.sizeOf21
  v21:=Tryz.zeroValue21
  t31:=Tryz.underlying173
  a31:=Tryz.isAgg173
  z31:=Tryz.sizeOf173
  v31:=Tryz.zeroValue173
  t46:=Tryz.underlying298
  a46:=Tryz.isAgg298
  z46:=Tryz.sizeOf298
  v46:=Tryz.zeroValue298
  t51:=Tryz.underlying304
  a51:=Tryz.isAgg304
  z51:=Tryz.sizeOf304
  v51:=Tryz.zeroValue304
  t105:=Tryz.underlying299
  a105:=Tryz.isAgg299
  z105:=Tryz.sizeOf299
  v105:=Tryz.zeroValue299
  t119:=Tryz.underlying309
  a119:=Tryz.isAgg309
  z119:=Tryz.sizeOf309
  t138:=Tryz.underlying311
  a138:=Tryz.isAgg311
  z138:=Tryz.sizeOf311
  v138:=Tryz.zeroValue311
  t139:=Tryz.underlying312
  a139:=Tryz.isAgg312
  z139:=Tryz.sizeOf312
  v139:=Tryz.zeroValue312
  t146:=Tryz.underlying305
  a146:=Tryz.isAgg305
  z146:=Tryz.sizeOf305
  v146:=Tryz.zeroValue305
  g1:=by kernel_rfl
  g3:=by kernel_rfl
  g4:=by kernel_rfl
  i0:=by kernel_rfl
  i3:=by kernel_rfl
  i4:=by kernel_rfl
  i5:=by kernel_rfl
  i9:=by kernel_rfl
  i21:=by kernel_rfl
  i31:=by kernel_rfl
  i46:=by kernel_rfl
  i51:=by kernel_rfl
  i105:=by kernel_rfl
  i138:=by kernel_rfl
  i139:=by kernel_rfl
  i146:=by kernel_rfl
  m1:=by kernel_rfl
  s1_3:=fun w h=>Go.Proofs.cell_of_shapedOpen_int (zero:=#[.int .i64 0]) (t:=3) h (of_decide_eq_true (by kernel_rfl)) (by kernel_rfl) rfl (by kernel_rfl) (by kernel_rfl) Tryz.underlying3
  m3:=by kernel_rfl
  m4:=by kernel_rfl }
open Go.RowKit Go.Lib in
theorem Tryz.strings_Split_shaped (s sep : ByteArray) (w : World) (h : w.ShapedOpen Tryz.prog) (hs : s.size < 4294967281) (h1 : 1 ≤ sep.size) :
    Calls Tryz.prog 195 #[.string s,.string sep] w fun e w' =>
      e = .returned (.slice (some ⟨w.heap.size,0,none⟩) (Lib.countB s sep + 1) (Lib.countB s sep + 1)) ∧ w' = w.alloc (.cells ((Lib.splitB sep 0 (Lib.countB s sep) s).map Value.string).toArray 9):=Any.strings_Split_shaped Tryz.laysM146 s sep w h hs h1
def Tryz.lays152_ren : Go.Shelf.Ren:=⟨fun|152=>215|137=>219|119=>220|224=>203|225=>202|217=>201|266=>212|n=>n,fun|9=>9|21=>21|3=>3|4=>4|5=>5|0=>0|46=>298|n=>n,fun|n=>n⟩
theorem Tryz.lays152 : Go.Proofs.Lays.n152 Tryz.prog Tryz.lays152_ren:={
  mixed:=by kernel_rfl
  f119:=Tryz.func220.trans (congrArg some (by kernel_rfl))
  f137:=Tryz.func219.trans (congrArg some (by kernel_rfl))
  f152:=Tryz.func215.trans (congrArg some (by kernel_rfl))
  f217:=Tryz.func201.trans (congrArg some (by kernel_rfl))
  f224:=Tryz.func203.trans (congrArg some (by kernel_rfl))
  f225:=Tryz.func202.trans (congrArg some (by kernel_rfl))
  f266:=Tryz.func212.trans (congrArg some (by kernel_rfl))
  t0:=Tryz.underlying0
  a0:=Tryz.isAgg0
  z0:=Tryz.sizeOf0
  v0:=Tryz.zeroValue0
  t3:=Tryz.underlying3
  a3:=Tryz.isAgg3
  z3:=Tryz.sizeOf3
  v3:=Tryz.zeroValue3
  t4:=Tryz.underlying4
  a4:=Tryz.isAgg4
  z4:=Tryz.sizeOf4
  v4:=Tryz.zeroValue4
  t5:=Tryz.underlying5
  a5:=Tryz.isAgg5
  z5:=Tryz.sizeOf5
  v5:=Tryz.zeroValue5
  t9:=Tryz.underlying9
  a9:=Tryz.isAgg9
  z9:=Tryz.sizeOf9
  v9:=Tryz.zeroValue9
  t21:=Tryz.underlying21
  a21:=Tryz.isAgg21
  z21:=Tryz.sizeOf21
  v21:=Tryz.zeroValue21
  t46:=Tryz.underlying298
  a46:=Tryz.isAgg298
  z46:=Tryz.sizeOf298
  v46:=Tryz.zeroValue298 }
open Go.RowKit Go.Lib in
theorem Tryz.strings_IndexRune_ascii (s : ByteArray) (r : Int) (w : World) (h0 : 0 ≤ r) (h1 : r < 128) :
    Calls Tryz.prog 215 #[.string s,.int .i32 r] w fun e w'=>e = .returned (.int .i64 (Lib.indexByte s.data.toList r.toNat.toUInt8)) ∧ w' = w:=Any.strings_IndexRune_ascii Tryz.lays152 s r w h0 h1
def Tryz.lays151_ren : Go.Shelf.Ren:=⟨fun|151=>207|152=>215|137=>219|119=>220|224=>203|225=>202|217=>201|266=>212|n=>n,fun|9=>9|21=>21|4=>4|3=>3|5=>5|0=>0|46=>298|n=>n,fun|n=>n⟩
theorem Tryz.lays151 : Go.Proofs.Lays.n151 Tryz.prog Tryz.lays151_ren:={
  mixed:=by kernel_rfl
  f119:=Tryz.func220.trans (congrArg some (by kernel_rfl))
  f137:=Tryz.func219.trans (congrArg some (by kernel_rfl))
  f151:=Tryz.func207.trans (congrArg some (by kernel_rfl))
  f152:=Tryz.func215.trans (congrArg some (by kernel_rfl))
  f217:=Tryz.func201.trans (congrArg some (by kernel_rfl))
  f224:=Tryz.func203.trans (congrArg some (by kernel_rfl))
  f225:=Tryz.func202.trans (congrArg some (by kernel_rfl))
  f266:=Tryz.func212.trans (congrArg some (by kernel_rfl))
  t0:=Tryz.underlying0
  a0:=Tryz.isAgg0
  z0:=Tryz.sizeOf0
  v0:=Tryz.zeroValue0
  t3:=Tryz.underlying3
  a3:=Tryz.isAgg3
  z3:=Tryz.sizeOf3
  v3:=Tryz.zeroValue3
  t4:=Tryz.underlying4
  a4:=Tryz.isAgg4
  z4:=Tryz.sizeOf4
  v4:=Tryz.zeroValue4
  t5:=Tryz.underlying5
  a5:=Tryz.isAgg5
  z5:=Tryz.sizeOf5
  v5:=Tryz.zeroValue5
  t9:=Tryz.underlying9
  a9:=Tryz.isAgg9
  z9:=Tryz.sizeOf9
  v9:=Tryz.zeroValue9
  t21:=Tryz.underlying21
  a21:=Tryz.isAgg21
  z21:=Tryz.sizeOf21
  v21:=Tryz.zeroValue21
  t46:=Tryz.underlying298
  a46:=Tryz.isAgg298
  z46:=Tryz.sizeOf298
  v46:=Tryz.zeroValue298 }
open Go.RowKit Go.Lib in
theorem Tryz.strings_ContainsRune_ascii (s : ByteArray) (r : Int) (w : World) (h0 : 0 ≤ r) (h1 : r < 128) :
    Calls Tryz.prog 207 #[.string s,.int .i32 r] w fun e w'=>e = .returned (.bool (decide (0 ≤ Lib.indexByte s.data.toList r.toNat.toUInt8))) ∧ w' = w:=Any.strings_ContainsRune_ascii Tryz.lays151 s r w h0 h1
def Tryz.lays227_ren : Go.Shelf.Ren:=⟨fun|227=>185|n=>n,fun|9=>9|116=>275|4=>4|0=>0|3=>3|5=>5|n=>n,fun|n=>n⟩
theorem Tryz.lays227 : Go.Proofs.Lays.n227 Tryz.prog Tryz.lays227_ren:={
  mixed:=by kernel_rfl
  f227:=Tryz.func185.trans (congrArg some (by kernel_rfl))
  t0:=Tryz.underlying0
  a0:=Tryz.isAgg0
  z0:=Tryz.sizeOf0
  v0:=Tryz.zeroValue0
  t3:=Tryz.underlying3
  a3:=Tryz.isAgg3
  z3:=Tryz.sizeOf3
  v3:=Tryz.zeroValue3
  t4:=Tryz.underlying4
  a4:=Tryz.isAgg4
  z4:=Tryz.sizeOf4
  v4:=Tryz.zeroValue4
  t5:=Tryz.underlying5
  a5:=Tryz.isAgg5
  z5:=Tryz.sizeOf5
  v5:=Tryz.zeroValue5
  t9:=Tryz.underlying9
  a9:=Tryz.isAgg9
  z9:=Tryz.sizeOf9
  v9:=Tryz.zeroValue9
  t116:=Tryz.underlying275
  a116:=Tryz.isAgg275
  z116:=Tryz.sizeOf275 }
open Go.RowKit Go.Lib in
theorem Tryz.strings_makeASCIISet (hv116 : ∀ w,(zeroValue 275).run Tryz.prog w = .ok (.agg (Array.replicate 256 (.bool false))) w) (chars : ByteArray) (w : World) (hs : chars.size < 4294967281) (hascii : ∀ (j : Nat) b,chars.data.toList[j]? = some b → b.toNat < 128) :
    Calls Tryz.prog 185 #[.string chars] w fun e w'=>e = .returned (.tuple #[.agg (Lib.setCells chars.data.toList),.bool true]) ∧ w' = w.alloc (.cells (Lib.setCells chars.data.toList) 275):=Any.strings_makeASCIISet Tryz.lays227 hv116 (by kernel_rfl) chars w hs hascii
def Tryz.lays228_ren : Go.Shelf.Ren:=⟨fun|228=>205|n=>n,fun|124=>279|5=>5|4=>4|0=>0|116=>275|n=>n,fun|n=>n⟩
theorem Tryz.lays228 : Go.Proofs.Lays.n228 Tryz.prog Tryz.lays228_ren:={
  mixed:=by kernel_rfl
  f228:=Tryz.func205.trans (congrArg some (by kernel_rfl))
  t0:=Tryz.underlying0
  a0:=Tryz.isAgg0
  z0:=Tryz.sizeOf0
  v0:=Tryz.zeroValue0
  t4:=Tryz.underlying4
  a4:=Tryz.isAgg4
  z4:=Tryz.sizeOf4
  v4:=Tryz.zeroValue4
  t5:=Tryz.underlying5
  a5:=Tryz.isAgg5
  z5:=Tryz.sizeOf5
  v5:=Tryz.zeroValue5
  t116:=Tryz.underlying275
  a116:=Tryz.isAgg275
  z116:=Tryz.sizeOf275
  t124:=Tryz.underlying279
  a124:=Tryz.isAgg279
  z124:=Tryz.sizeOf279
  v124:=Tryz.zeroValue279 }
open Go.RowKit Go.Lib in
theorem Tryz.asciiSet_contains (b : Nat) (x : UInt8) (v : Bool) (w : World) (hc : w.cell? ⟨b,x.toNat,none⟩ = some (.bool v)) :
    Calls Tryz.prog 205 #[.pointer (some ⟨b,0,none⟩),.int .u8 x.toNat] w fun e w'=>e = .returned (.bool v) ∧ w' = w:=Any.asciiSet_contains Tryz.lays228 b x v w hc
def Tryz.lays260_ren : Go.Shelf.Ren:=⟨fun|260=>214|n=>n,fun|9=>9|21=>21|3=>3|4=>4|5=>5|119=>309|0=>0|46=>298|139=>312|138=>311|n=>n,fun|3=>2|4=>3|n=>n⟩
theorem Tryz.lays260 : Go.Proofs.Lays.n260 Tryz.prog Tryz.lays260_ren:={
  mixed:=by kernel_rfl
  f260:=Tryz.func214.trans (congrArg some (by kernel_rfl))
  t0:=Tryz.underlying0
  a0:=Tryz.isAgg0
  z0:=Tryz.sizeOf0
  v0:=Tryz.zeroValue0
  t3:=Tryz.underlying3
  a3:=Tryz.isAgg3
  z3:=Tryz.sizeOf3
  v3:=Tryz.zeroValue3
  t4:=Tryz.underlying4
  a4:=Tryz.isAgg4
  z4:=Tryz.sizeOf4
  v4:=Tryz.zeroValue4
  t5:=Tryz.underlying5
  a5:=Tryz.isAgg5
  z5:=Tryz.sizeOf5
  v5:=Tryz.zeroValue5
  t9:=Tryz.underlying9
  a9:=Tryz.isAgg9
  z9:=Tryz.sizeOf9
  v9:=Tryz.zeroValue9
  t21:=Tryz.underlying21
  a21:=Tryz.isAgg21
  z21:=Tryz.sizeOf21
  v21:=Tryz.zeroValue21
  t46:=Tryz.underlying298
  a46:=Tryz.isAgg298
  z46:=Tryz.sizeOf298
  v46:=Tryz.zeroValue298
  t119:=Tryz.underlying309
  a119:=Tryz.isAgg309
  z119:=Tryz.sizeOf309
  t138:=Tryz.underlying311
  a138:=Tryz.isAgg311
  z138:=Tryz.sizeOf311
  v138:=Tryz.zeroValue311
  t139:=Tryz.underlying312
  a139:=Tryz.isAgg312
  z139:=Tryz.sizeOf312
  v139:=Tryz.zeroValue312
  g3:=by kernel_rfl
  g4:=by kernel_rfl }
open Go.RowKit Go.Lib in
theorem Tryz.utf8_decodeRuneInStringSlow (s : ByteArray) (w : World) (hT : Lib.Utf8Tabs 2 3 w) :
    Calls Tryz.prog 214 #[.string s] w fun e w'=>e = .returned (.tuple #[.int .i32 (Lib.decodeGo s).1,.int .i64 (Lib.decodeGo s).2]) ∧ Below w.heap.size w w':=Any.utf8_decodeRuneInStringSlow Tryz.lays260 s w hT
end Go.Proofs
namespace Go.Proofs.YtbfhpimmlehkcaaGreatDoor
open Go.RowKit
namespace Ab
theorem acall2 {P : Program} {f : FuncId} {a b u : Value} {r : A} (hfn : FnOk P f) (hr : ∀ ok w,r.rep ok qV w u) (h : ∀ w,MaxCell w → Calls P f #[a,b] w fun e w'=>e = .returned u ∧ Below w.heap.size w w') : qT P f [.one (.lit a),.one (.lit b)] r:=by
  refine ⟨hfn,fun ok w vs hg hvs=>?_⟩;obtain ⟨v,t,rfl,hv,v2,t2,rfl,hv2,ht⟩:=hvs;rw [show t2 = [] from ht,show v = a from hv,show v2 = b from hv2];refine (h w hg.2.2.max).mono ?_
  rintro e w' ⟨rfl,hb⟩
  exact ⟨_,rfl,hb,hr _ _⟩
theorem same_below {e : Ending} {u : Value} {w w' : World} (h : e = .returned u ∧ w' = w) : e = .returned u ∧ Below w.heap.size w w':=⟨h.1,by rw [h.2];exact Below.refl _ _⟩
theorem hasPrefix_c (s p : ByteArray) : qT Tryz.prog 165 [is s,is p] (ib (Lib.hasPrefix s.data.toList p.data.toList)) :=
  acall2 ⟨_,Tryz.func165,rfl,rfl⟩ (fun _ _=>rfl) fun w _=>(Tryz.strings_HasPrefix s p w).mono fun _ _ h=>same_below h
theorem contains_c (s p : ByteArray) (hs : s.size < 4294967281) : qT Tryz.prog 163 [is s,is p] (ib (Lib.contains s.data.toList p.data.toList)) :=
  acall2 ⟨_,Tryz.func163,rfl,rfl⟩ (fun _ _=>rfl) fun w ⟨m,hm⟩=>(Tryz.strings_Contains s p m w hs hm).mono fun _ _ h=>same_below h
theorem trimPrefix_c (s p : ByteArray) : qT Tryz.prog 192 [is s,is p] (is ⟨(Lib.trimPrefix s.data.toList p.data.toList).toArray⟩) :=
  acall2 ⟨_,Tryz.func192,rfl,rfl⟩ (fun _ _=>rfl) fun w _=>(Tryz.strings_TrimPrefix s p w).mono fun _ _ h=>same_below h
theorem cut_c (s p : ByteArray) (hs : s.size < 4294967281) : qT Tryz.prog 137 [is s,is p] (.tup [(false,[.lit (.string ⟨(Lib.cut s.data.toList p.data.toList).1.toArray⟩)]),(false,[.lit (.string ⟨(Lib.cut s.data.toList p.data.toList).2.1.toArray⟩)]),(false,[.lit (.bool (Lib.cut s.data.toList p.data.toList).2.2)])]) :=
  acall2 ⟨_,Tryz.func137,rfl,rfl⟩ (fun _ _=>⟨_,rfl,_,_,rfl,⟨_,_,rfl,rfl,rfl⟩,_,_,rfl,⟨_,_,rfl,rfl,rfl⟩,_,_,rfl,⟨_,_,rfl,rfl,rfl⟩,rfl⟩) fun w ⟨m,hm⟩=>(Tryz.strings_Cut s p m w hs hm).mono fun _ _ h=>⟨h.1,by obtain ⟨n,hn⟩:=h.2;rw [hn];exact ⟨rfl,rfl,rfl,Nat.le_refl _,fun _ _=>rfl⟩⟩
theorem split_c (s p : ByteArray) (hs : s.size < 4294967281) (h1 : 1 ≤ p.size) (hc : Lib.countB s p + 1 ≤ maxLen) : qT Tryz.prog 195 [is s,is p] (.one (.sl .str (Lib.splitB p 0 (Lib.countB s p) s))):=by
  refine ⟨⟨_,Tryz.func195,rfl,rfl⟩,fun ok w vs hg hvs=>?_⟩;obtain ⟨v,t,rfl,hv,v2,t2,rfl,hv2,ht⟩:=hvs;rw [show t2 = [] from ht,show v = .string s from hv,show v2 = .string p from hv2];obtain ⟨m,hm⟩:=hg.2.2.max;refine (Tryz.strings_Split s p m w hs hm h1).mono ?_
  rintro e w' ⟨rfl,rfl⟩
  refine ⟨_,rfl,below_alloc w _,?_⟩;have hl:=Lib.splitB_all p h1 0 (Lib.countB s p) s rfl;rw [← hl] at hc ⊢;refine ⟨_,_,rfl,Nat.le_refl _,hc,fun i hi=>⟨w.heap.size,0,[.string (Lib.splitB p 0 (Lib.countB s p) s)[i]],rfl,okU0 (.inr ⟨Nat.le_refl _,by decide⟩),by simp,⟨rfl,fun j hj=>?_⟩,rfl⟩⟩;obtain rfl : j = 0:=by simp only [Rd.n] at hj;omega
  have hh : (w.alloc (Obj.cells (List.map Value.string (Lib.splitB p 0 (Lib.countB s p) s)).toArray 9)).heap[w.heap.size]? = _:=heap_new w _;simp only [World.cell?,hh];simp [Rd.n,hi]
theorem join_c (xs : List ByteArray) (sep : ByteArray) (hN : xs.length ≤ 140737488355328) (hlen : (Lib.join (xs.map (·.data.toList)) sep.data.toList).length ≤ 140737488355328) : qT Tryz.prog 143 [.one (.sl .str xs),is sep] (is ⟨(Lib.join (xs.map (·.data.toList)) sep.data.toList).toArray⟩):=by
  refine ⟨⟨_,Tryz.func143,rfl,rfl⟩,fun ok w vs hg hvs=>?_⟩;obtain ⟨v,t,rfl,⟨a,cap,rfl,h1,h2,hc⟩,v2,t2,rfl,hv2,ht⟩:=hvs;rw [show t2 = [] from ht,show v2 = .string sep from hv2]
  by_cases h0 : xs = []
  · subst h0;refine (Tryz.strings_Join_none a cap sep w).mono ?_
    rintro e w' ⟨rfl,rfl⟩
    exact ⟨_,rfl,Below.refl _ _,rfl⟩
  · have hpos : 0 < xs.length:=List.length_pos_iff.2 h0;obtain ⟨b,off,_,rfl,_,hb,_⟩:=hc 0 hpos;refine (Tryz.strings_Join b off cap xs sep w (fun j x hj=>?_) hb hN h1 hlen).mono ?_
    · obtain ⟨hjl,rfl⟩:=List.getElem?_eq_some_iff.1 hj;obtain ⟨b',off',cs,e,_,_,hcell,hr⟩:=hc j hjl;cases e;have hr : cs = [.string xs[j]]:=hr;have:=hcell.2 0 (by decide);rw [hr] at this
      simpa [Rd.n] using this
    · rintro e w' ⟨rfl,hb⟩
      exact ⟨_,rfl,hb,rfl⟩
end Ab
end Go.Proofs.YtbfhpimmlehkcaaGreatDoor
namespace Go.Proofs.YtbfhpimmlehkcaaGreatDoor
open Go.RowKit
namespace Ab
theorem trimS_c (s p : ByteArray) (hp : p.data.toList.all (fun b=>decide (b.toNat < 128)) = true) (hps : p.size < 4294967281) (hs : s.size ≤ 9223372036854775807) : qT Tryz.prog 164 [is s,is p] (is ⟨(Lib.trimS s.data.toList p.data.toList).toArray⟩) :=
  acall2 ⟨_,Tryz.func164,rfl,rfl⟩ (fun _ _=>rfl) fun w _=>(Any.strings_Trim_laid Tryz.lays160 (by kernel_rfl) s p w hs hps (ascii_of_all hp)).mono fun _ _ h=>h
end Ab
end Go.Proofs.YtbfhpimmlehkcaaGreatDoor
namespace Go.Proofs.YtbfhpimmlehkcaaGreatDoor
open Go.RowKit
namespace Ab
set_option maxRecDepth 100000
abbrev Fld:=ByteArray × ByteArray
abbrev rFld : Rd Fld:=.st .str .str
theorem qQ {n b : Nat} (h : n ≤ 1000000000) (hb : b ≤ 1000) : n * b ≤ 140737488355328:=Nat.le_trans (Nat.mul_le_mul h hb) (by decide)
theorem map_next {α β : Type} (g : α → β) (d : α) {l : List α} {i : Nat} (h : i < l.length) (b : β) (hb : b = g (l.getD i d)) (c : List β) : c ++ (l.take i).map g ++ [b] = c ++ (l.take (i + 1)).map g:=by
  rw [hb,List.append_assoc,← yO d h,List.map_append];rfl
namespace Q
def xH (l : List Fld) : Prop:=l.length ≤ 1000 ∧ ∀ f ∈ l,f.1.size ≤ 1000000 ∧ f.2.size ≤ 1000000
def sumF (l : List Fld) : Nat:=(l.map fun f=>min f.1.size 10000 + min f.2.size 10000).sum
def muchB (l : List Fld) : Bool:=decide (61 < l.length) || decide (6000 < sumF l)
theorem drop_cons {l : List UInt8} {i : Nat} (h : i < l.length) : l.drop i = l.getD i 0 :: l.drop (i + 1):=by
  rw [List.drop_eq_getElem_cons h,List.getD_eq_getElem?_getD,List.getElem?_eq_getElem h];rfl
theorem xE (s : ByteArray) : s.size = s.data.toList.length:=by cases s;rfl
abbrev ls (s : ByteArray) : List UInt8:=s.data.toList
def bytes (l : List UInt8) : ByteArray:=⟨l.toArray⟩
theorem bytes_list (l : List UInt8) : (bytes l).data.toList = l:=by simp [bytes]
theorem bytes_ls (s : ByteArray) : bytes (ls s) = s:=by cases s;rfl
def Clean (sep p : List UInt8) : Prop:=(∀ r j,j < p.length → Lib.occAt (p ++ sep ++ r) sep j = false) ∧ ∀ j,j ≤ p.length → Lib.occAt p sep j = false
theorem join_two (p q : List UInt8) (ps : List (List UInt8)) (sep : List UInt8) : Lib.join (p :: q :: ps) sep = p ++ sep ++ Lib.join (q :: ps) sep:=by
  rw [Lib.join_cons,Lib.join_cons];simp [Lib.joinTail]
theorem extract_one {s : ByteArray} {i : Nat} (h : i < s.data.toList.length) : s.extract i (i + 1) = bytes [s.data.toList.getD i 0]:=by
  apply ByteArray.ext;apply Array.ext';rw [bytes_list,Lib.extract_data,Nat.add_sub_cancel_left,drop_cons h];rfl
theorem bytes_app (l m : List UInt8) : bytes (l ++ m) = bytes l ++ bytes m:=by
  apply ByteArray.ext;simp [bytes]
theorem bytes_size (l : List UInt8) : (bytes l).size = l.length:=by rw [xE,bytes_list]
theorem extract_ls (s : ByteArray) (a b : Nat) : (s.extract a b).data.toList = (s.data.toList.drop a).take (b - a):=Lib.extract_data s a b
theorem occ_one (l : List UInt8) (c : UInt8) (i : Nat) : Lib.occAt l [c] i = true ↔ l[i]? = some c:=by
  refine ⟨fun h=>Lib.occAt_head rfl h,fun h=>?_⟩;unfold Lib.occAt;obtain ⟨hi,e⟩:=List.getElem?_eq_some_iff.1 h;rw [List.drop_eq_getElem_cons hi,e];simp [List.isPrefixOf]
theorem contains_one (l : List UInt8) (c : UInt8) : Lib.contains l [c] = decide (c ∈ l):=by
  unfold Lib.contains;refine decide_eq_decide.2 ⟨fun h=>?_,fun h=>?_⟩
  · rcases Lib.index_spec l [c] with ⟨e,_⟩|⟨i,_,_,h3,_⟩
    · omega
    · exact List.mem_of_getElem? ((occ_one l c i).1 h3)
  · obtain ⟨i,hi,e⟩:=List.getElem_of_mem h;rcases Lib.index_spec l [c] with ⟨_,h2⟩|⟨i,h1,_⟩
    · have:=h2 i (Nat.le_of_lt hi);rw [(occ_one l c i).2 (by rw [List.getElem?_eq_getElem hi,e])] at this;cases this
    · omega
def blankC (c : UInt8) : Bool:=decide (c = 32) || decide (c = 9)
def blankL (l : List UInt8) : Bool:=decide (1 ≤ l.length) && blankC (l.getD 0 0)
def keyOk (l : List UInt8) : Bool:=(((((decide (1 ≤ l.length) && decide (l.length ≤ 32)) && !blankC (l.getD 0 0)) && !decide (l.getD 0 0 = 35)) && !decide (58 ∈ l)) && !decide (10 ∈ l))
theorem emp {s : ByteArray} : s = ⟨#[]⟩ ↔ s.data.toList.length = 0:=by
  refine ⟨fun h=>by rw [h];rfl,fun h=>?_⟩;have:=List.eq_nil_of_length_eq_zero h;rw [← bytes_ls s,show ls s = [] from this];rfl
theorem hasPrefix_one (l : List UInt8) (c : UInt8) : Lib.hasPrefix l [c] = (decide (1 ≤ l.length) && decide (l.getD 0 0 = c)):=by
  unfold Lib.hasPrefix;cases l with
  | nil=>rfl
  | cons d l =>
    have : (c == d) = decide (d = c):=by rw [Bool.eq_iff_iff,beq_iff_eq,decide_eq_true_iff];exact eq_comm
    simp [List.isPrefixOf,this]
theorem keyOk_prog (l : List UInt8) : keyOk l = (!(((decide (l.length = 0) || decide (32 < l.length)) || blankL l) || Lib.hasPrefix l [35]) && (!Lib.contains l [58] && !Lib.contains l [10])):=by
  rw [contains_one,contains_one,hasPrefix_one];unfold keyOk blankL
  by_cases h : 1 ≤ l.length
  · have h0 : ¬ l.length = 0:=by omega
    by_cases h2 : l.length ≤ 32
    · have h3 : ¬ 32 < l.length:=by omega
      simp [h,h0,h2,h3,Bool.and_assoc]
    · have h3 : 32 < l.length:=by omega
      simp [h2,h3]
  · have h0 : l.length = 0:=by omega
    simp [h0]
theorem blank_c (s : ByteArray) (hs : s.size ≤ 1000000000) : qT Tryz.prog 166 [is s] (ib (blankL s.data.toList)):=by
  have hz:=xE s;refine qS (rs:=[2]) Tryz.func166 rfl rfl rfl teOk rfl ?_;refine qC ?_;refine qB ?_;refine qC ?_;refine qB ?_;refine zai (fun h=>trivial) ?_;refine zai (fun h=>⟨⟨⟨h,trivial⟩,trivial⟩,by have h9 : ¬ s = ⟨#[]⟩:=(by simpa [gq] using h);rw [emp] at h9;omega⟩) ?_;refine Or.inl ?_;refine zai (rfl) ?_;refine zei _ (zai (fun h=>⟨⟨⟨h,trivial⟩,trivial⟩,contains_c _ _ (by decide)⟩) ?_);refine zai (by exact fun h=>h) ?_;refine qL ?_;refine ib_eq ?_
  by_cases h : s.data.toList.length = 0
  ·rw [decide_eq_true (emp.2 h),Bool.not_true,Bool.false_and];unfold blankL;rw [h];rfl
  ·rw [decide_eq_false (fun e=>h (emp.1 e)),show s.extract (Int.toNat 0) (Int.toNat 1) = bytes [s.data.toList.getD 0 0] from extract_one (by omega),bytes_list,contains_one];unfold blankL blankC;rw [decide_eq_true (show 1 ≤ s.data.toList.length by omega)];simp
theorem key_c (s : ByteArray) (hs : s.size ≤ 1000000000) : qT Tryz.prog 167 [is s] (ib (keyOk s.data.toList)):=by
  have hz:=xE s;refine qS (rs:=[2]) Tryz.func167 rfl rfl rfl teOk rfl ?_;refine qC ?_;refine qB ?_;refine qC ?_;refine qC ?_;refine qB ?_;refine zai (fun h=>trivial) ?_;refine zai (fun h=>⟨⟨h,trivial⟩,trivial⟩) ?_;refine zai (fun h=>⟨⟨h,trivial⟩,trivial⟩) ?_;refine zai (by first|(intro h;rw [h];rfl)|(intro h;cases h)) ?_;refine zai (fun h=>trivial) ?_;refine Or.inl ?_;refine zai (rfl) ?_;refine zei _ (zai (fun h=>⟨⟨⟨h,trivial⟩,trivial⟩,blank_c _ hs⟩) ?_);refine zai (by first|(intro h;rw [h];rfl)|(intro h;cases h)) ?_;refine zai (fun h=>trivial) ?_;refine Or.inl ?_;refine zai (rfl) ?_;refine zei _ (zai (fun h=>⟨⟨⟨h,trivial⟩,trivial⟩,hasPrefix_c _ _⟩) ?_);refine zai (by first|(intro h;rw [h];rfl)|(intro h;cases h)) ?_;refine qK rfl (fun h17=>?_) (fun h17=>?_)
  ·try simp only [decide_eq_true_eq,Bool.or_eq_true] at h17
   try simp only [zds] at h17
   refine qC ?_;refine qB ?_;refine qL ?_;refine ib_eq ?_;rw [keyOk_prog];rw [emp] at h17;rcases h17 with ((h|h)|h)|h
   ·simp [h]
   ·rw [decide_eq_true (show 32 < s.data.toList.length by omega)];simp
   ·simp [h]
   ·simp [h]
  ·try simp only [decide_eq_false_iff_not,Bool.or_eq_false_iff,Int.not_lt] at h17
   try simp only [zds] at h17
   refine qM ?_;refine qC ?_;refine qB ?_;refine Or.inl ?_;refine zai (rfl) ?_;refine zei _ (zai (contains_c _ _ (by omega)) ?_);refine zai (fun h=>trivial) ?_;refine Or.inl ?_;refine zai (rfl) ?_;refine zei _ (zai (fun h=>⟨⟨⟨h,trivial⟩,trivial⟩,contains_c _ _ (by omega)⟩) ?_);refine zai (fun h=>⟨⟨h,trivial⟩,trivial⟩) ?_;refine zai (by exact fun h=>h) ?_;refine qL ?_;refine ib_eq ?_;rw [keyOk_prog];rw [emp] at h17;obtain ⟨⟨⟨h1,h2⟩,h3⟩,h4⟩:=h17;simp only [h3,h4,decide_eq_false h1,decide_eq_false (show ¬ 32 < s.data.toList.length by omega)];rfl
end Q
end Ab
end Go.Proofs.YtbfhpimmlehkcaaGreatDoor
namespace Go.Proofs.YtbfhpimmlehkcaaGreatDoor
open Go.RowKit
namespace Ab
namespace Q
theorem dropWhile_nil {α : Type} {p : α → Bool} : ∀ {l : List α},l.dropWhile p = [] ↔ l.all p = true
  | []=>by simp
  | a :: l=>by
    rw [List.dropWhile_cons,List.all_cons];cases h : p a
    · simp
    · simp [dropWhile_nil (p:=p) (l:=l)]
theorem mem_tw {α : Type} {p : α → Bool} {x : α} : ∀ {l : List α},x ∈ l.takeWhile p → p x = true
  | a :: l,h=>by
    rw [List.takeWhile_cons] at h;split at h
    · rename_i hp;rcases List.mem_cons.1 h with rfl|h
      · exact hp
      · exact mem_tw h
    · cases h
theorem trim_nil (l : List UInt8) : Lib.trimS l [32,9] = [] ↔ l.all blankC = true:=by
  have hp : (fun c : UInt8=>([32,9] : List UInt8).contains c) = blankC:=by
    funext c;unfold blankC;simp
  unfold Lib.trimS Lib.trimLeftS Lib.trimRightS;rw [show (fun x : UInt8=>([32,9] : List UInt8).contains x) = blankC from hp,dropWhile_nil];refine ⟨fun h=>?_,fun h=>?_⟩
  · refine List.all_eq_true.2 fun x hx=>?_
    by_cases hb : blankC x = true
    · exact hb
    · exfalso
      have h2 : x ∈ (l.reverse.dropWhile blankC):=by
        have hs : l.reverse = l.reverse.takeWhile blankC ++ l.reverse.dropWhile blankC:=(List.takeWhile_append_dropWhile).symm;have hm : x ∈ l.reverse:=List.mem_reverse.2 hx;rw [hs] at hm;rcases List.mem_append.1 hm with h3|h3
        · exact absurd (mem_tw h3) hb
        · exact h3
      exact hb (List.all_eq_true.1 h x (List.mem_reverse.2 h2))
  · have : l.reverse.dropWhile blankC = []:=dropWhile_nil.2 (by rw [List.all_reverse];exact h);rw [this];rfl
def stuffL (s : List UInt8) : List UInt8:=if s.all blankC || Lib.hasPrefix s [46] then 46 :: s else s
def partsL (v : List UInt8) : List (List UInt8):=Lib.split v [10]
def firstL (key : List UInt8) (p : List UInt8) : List UInt8:=key ++ [58] ++ (if p = [] then [] else 32 :: p)
def linesL (key v : List UInt8) : List (List UInt8):=firstL key ((partsL v).headD []) :: ((partsL v).drop 1).map fun s=>32 :: stuffL s
def yK (l : List UInt8) : Int:=if 10 ∈ l then 5 else if l.all blankC = true then 1 else if Lib.hasPrefix l [35] = true then 2 else if blankL l = true then 3
  else if ((Lib.cut l [58]).2.2 && keyOk (Lib.cut l [58]).1) = true then 4 else 5
theorem cut_at {key r : List UInt8} {c : UInt8} (h : c ∉ key) : Lib.cut (key ++ c :: r) [c] = (key,r,true):=by
  have hi : Lib.index (key ++ c :: r) [c] = key.length:=by
    refine Lib.index_first (by simp) ((occ_one _ _ _).2 (by simp)) fun j hj=>Bool.eq_false_iff.2 fun e=>?_
    have:=(occ_one _ _ _).1 e;rw [List.getElem?_append_left hj] at this;exact h (List.mem_of_getElem? this)
  unfold Lib.cut;rw [hi,if_pos (by omega),Int.toNat_natCast,List.take_left];show (key,List.drop (key.length + 1) (key ++ c :: r),true) = _;rw [← List.drop_drop,List.drop_left];rfl
def valueL (l0 : List UInt8) (rest : List (List UInt8)) : List UInt8:=Lib.join (Lib.trimPrefix (Lib.cut l0 [58]).2.1 [32] :: rest.map fun s=>Lib.trimPrefix (s.drop 1) [46]) [10]
def yC : List (List UInt8) → (List UInt8 × List UInt8) × Int
  | []=>(([],[]),2)
  | l0 :: rest=>if yK l0 ≠ 4 ∨ (rest.any fun s=>!decide (yK s = 3)) = true then (([],[]),2) else if 1000 < (valueL l0 rest).length then (([],[]),6) else (((Lib.cut l0 [58]).1,valueL l0 rest),0)
end Q
end Ab
end Go.Proofs.YtbfhpimmlehkcaaGreatDoor
namespace Go.Proofs.YtbfhpimmlehkcaaGreatDoor
open Go.RowKit
namespace Ab
set_option maxRecDepth 100000
namespace Q
def checkF (f : Fld) : Int:=if keyOk f.1.data.toList = true then (if 1000 < f.2.size then 6 else 0) else 5
def errN (n : Int) : C:=.lit (.iface 118 (.int .i64 n))
def errA (n : Int) : C:=if n = 0 then .lit .nilIface else errN n
theorem errA_eq {n m : Int} (h : n = m) : A.one (errA n) = A.one (errA m):=by rw [h]
theorem check_c (f : Fld) (hk : f.1.size ≤ 1000000000) : qT Tryz.prog 157 [.agg (toL rFld f)] (.one (errA (checkF f))):=by
  refine qS (rs:=[2]) Tryz.func157 rfl rfl rfl teOk rfl ?_;refine qC ?_;refine qB ?_;refine qC ?_;refine qN ?_;refine qC ?_;refine qB ?_;refine Or.inl ?_;refine zai (rfl) ?_;refine zei _ (zai (key_c _ hk) ?_);refine qK rfl (fun h3=>?_) (fun h3=>?_)
  ·try simp only [Bool.not_eq_true'] at h3
   try simp only [zds] at h3
   refine qC ?_;refine qB ?_;refine qL ?_;exact errA_eq (n:=5) (by unfold checkF;rw [if_neg (by rw [h3];decide)])
  ·try simp only [Bool.not_eq_false'] at h3
   try simp only [zds] at h3
   refine qC ?_;refine qB ?_;refine qK rfl (fun h9=>?_) (fun h9=>?_)
   ·try simp only [decide_eq_true_eq] at h9
    try simp only [zds] at h9
    refine qC ?_;refine qB ?_;refine qL ?_;exact errA_eq (n:=6) (by unfold checkF;rw [if_pos h3,if_pos (by omega)])
   ·try simp only [decide_eq_false_iff_not,Int.not_lt] at h9
    try simp only [zds] at h9
    refine qM ?_;refine qC ?_;refine qB ?_;refine qL ?_;exact errA_eq (n:=0) (by unfold checkF;rw [if_pos h3,if_neg (by omega)])
theorem check_v (f : Fld) (n : Int) (hk : f.1.size ≤ 1000000000) (h : checkF f = n) : qT Tryz.prog 157 [.agg (toL rFld f)] (.one (errA n)):=by
  subst h;exact check_c f hk
theorem cut_v (s p : ByteArray) (l : List UInt8) (c : List UInt8 × List UInt8 × Bool) (hl : p.data.toList = l) (hc : Lib.cut s.data.toList l = c) (hs : s.size < 4294967281) : qT Tryz.prog 137 [is s,is p] (.tup [(false,[.lit (.string (bytes c.1))]),(false,[.lit (.string (bytes c.2.1))]),(false,[.lit (.bool c.2.2)])]):=by
  subst hl hc;exact cut_c s p hs
theorem cut_len (l sep : List UInt8) : (Lib.cut l sep).1.length ≤ l.length ∧ (Lib.cut l sep).2.1.length ≤ l.length:=by
  unfold Lib.cut;split
  · simp only [List.length_take,List.length_drop];omega
  · exact ⟨Nat.le_refl _,Nat.zero_le _⟩
theorem kind_c (s : ByteArray) (hs : s.size ≤ 1000000000) : qT Tryz.prog 138 [is s] (ii .i64 (yK s.data.toList)):=by
  have hz:=xE s;obtain ⟨c,hc⟩ : ∃ c,Lib.cut s.data.toList [58] = c:=⟨_,rfl⟩;have hcl : (bytes c.1).size ≤ 1000000000:=by rw [bytes_size,← hc];have:=(cut_len s.data.toList [58]).1;omega
  have he : (⟨(Lib.trimS s.data.toList [32,9]).toArray⟩ : ByteArray) = ⟨#[]⟩ ↔ s.data.toList.all blankC = true:=by
    rw [emp,← trim_nil];show (bytes (Lib.trimS s.data.toList [32,9])).data.toList.length = 0 ↔ _;rw [bytes_list];exact ⟨List.eq_nil_of_length_eq_zero,fun h=>by rw [h];rfl⟩
  have hcon : Lib.contains s.data.toList [10] = decide (10 ∈ s.data.toList):=contains_one _ _;refine qS (rs:=[2]) Tryz.func138 rfl rfl rfl teOk rfl ?_;refine qC ?_;refine qB ?_;refine qC ?_;refine qN ?_;refine qC ?_;refine qB ?_;refine Or.inl ?_;refine zai (rfl) ?_;refine zei _ (zai (contains_c _ _ (by omega)) ?_);refine qK rfl (fun h6=>?_) (fun h6=>?_)
  ·skip
   have hm : 10 ∈ s.data.toList:=of_decide_eq_true (hcon ▸ h6);refine qC ?_;refine qB ?_;refine qL ?_;refine yX ?_;unfold yK;rw [if_pos hm]
  ·skip
   have hm : 10 ∉ s.data.toList:=of_decide_eq_false (hcon ▸ h6);refine qC ?_;refine qB ?_;refine Or.inl ?_;refine zai (rfl) ?_;refine zei _ (zai (trimS_c _ _ (by decide) (by decide) (by omega)) ?_);refine qK rfl (fun h9=>?_) (fun h9=>?_)
   ·try simp only [decide_eq_true_eq] at h9
    try simp only [zds] at h9
    rw [he] at h9;refine qC ?_;refine qB ?_;refine qL ?_;refine yX ?_;unfold yK;rw [if_neg hm,if_pos h9]
   ·try simp only [decide_eq_false_iff_not] at h9
    try simp only [zds] at h9
    rw [he] at h9;refine qC ?_;refine qB ?_;refine Or.inl ?_;refine zai (rfl) ?_;refine zei _ (zai (hasPrefix_c _ _) ?_);refine qK rfl (fun h13=>?_) (fun h13=>?_)
    ·skip
     refine qC ?_;refine qB ?_;refine qL ?_;refine yX ?_;unfold yK;rw [if_neg hm,if_neg h9,if_pos h13]
    ·skip
     refine qC ?_;refine qB ?_;refine Or.inl ?_;refine zai (rfl) ?_;refine zei _ (zai (blank_c _ hs) ?_);refine qK rfl (fun h16=>?_) (fun h16=>?_)
     ·try simp only [zbq] at h16
      try simp only [zds] at h16
      refine qC ?_;refine qB ?_;refine qL ?_;refine yX ?_;unfold yK;rw [if_neg hm,if_neg h9,if_neg (by rw [Bool.not_eq_true];exact h13),if_pos h16]
     ·try simp only [zbq] at h16
      try simp only [zds] at h16
      refine qM ?_;refine qC ?_;refine qC ?_;refine qB ?_;refine Or.inl ?_;refine zai (rfl) ?_;refine zei _ (zai (cut_v _ _ [58] c rfl hc (by omega)) ?_);refine qC ?_;refine qB ?_;refine zai (fun h=>trivial) ?_;refine Or.inl ?_;refine zai (rfl) ?_;refine zei _ (zai (fun h=>⟨⟨⟨h,trivial⟩,trivial⟩,key_c _ hcl⟩) ?_);refine zai (by exact fun h=>h) ?_;refine qK rfl (fun h29=>?_) (fun h29=>?_)
      ·try simp only [Bool.and_eq_true] at h29
       try simp only [zds] at h29
       refine qC ?_;refine qB ?_;refine qL ?_;refine yX ?_;unfold yK;rw [if_neg hm,if_neg h9,if_neg (by rw [Bool.not_eq_true];exact h13),if_neg (by rw [Bool.not_eq_true];exact h16),hc,if_pos (by rw [Bool.and_eq_true];rw [bytes_list] at h29;exact h29)]
      ·try simp only [Bool.and_eq_false_iff] at h29
       try simp only [zds] at h29
       refine qM ?_;refine qC ?_;refine qB ?_;refine qL ?_;refine yX ?_;unfold yK;rw [if_neg hm,if_neg h9,if_neg (by rw [Bool.not_eq_true];exact h13),if_neg (by rw [Bool.not_eq_true];exact h16),hc,if_neg (by rw [Bool.not_eq_true,Bool.and_eq_false_iff];rw [bytes_list] at h29;exact h29)]
def cutL (l : List UInt8) : List UInt8 × List UInt8 × Bool:=if yK l = 4 then Lib.cut l [58] else ([],[],false)
def cutA (c : List UInt8 × List UInt8 × Bool) : A:=.tup [(false,[.lit (.string (bytes c.1))]),(false,[.lit (.string (bytes c.2.1))]),(false,[.lit (.bool c.2.2)])]
theorem cutA_eq {c c' : List UInt8 × List UInt8 × Bool} (h : c = c') : cutA c = cutA c':=by rw [h]
theorem lcut_c (s : ByteArray) (hs : s.size ≤ 1000000000) : qT Tryz.prog 191 [is s] (cutA (cutL s.data.toList)):=by
  refine qS (rs:=[2,3,4]) Tryz.func191 rfl rfl rfl teOk rfl ?_;refine qC ?_;refine qB ?_;refine qC ?_;refine qC ?_;refine qB ?_;refine Or.inl ?_;refine zai (rfl) ?_;refine zei _ (zai (kind_c s hs) ?_);refine qK rfl (fun h7=>?_) (fun h7=>?_)
  ·try simp only [decide_eq_false_iff_not,Bool.not_eq_true'] at h7
   try simp only [zds] at h7
   refine qC ?_;refine qB ?_;refine qL ?_;exact cutA_eq (c:=([],[],false)) (by unfold cutL;rw [if_neg h7])
  ·try simp only [decide_eq_true_eq,Bool.not_eq_false'] at h7
   try simp only [zds] at h7
   refine qM ?_;refine qC ?_;refine qB ?_;refine Or.inl ?_;refine zai (rfl) ?_;refine zei _ (zai (cut_v _ _ [58] _ rfl rfl (by omega)) ?_);refine qL ?_;exact cutA_eq (c:=Lib.cut s.data.toList [58]) (by unfold cutL;rw [if_pos h7])
end Q
end Ab
end Go.Proofs.YtbfhpimmlehkcaaGreatDoor
namespace Go.Proofs.YtbfhpimmlehkcaaGreatDoor
open Go.RowKit
namespace Ab
set_option maxRecDepth 100000
namespace Q
def refCutL (l : List UInt8) : List UInt8 × List UInt8 × Bool:=if 10 ∈ l then ([],[],false) else if ((Lib.cut l [58]).2.2 && keyOk (Lib.cut l [58]).1) = true then Lib.cut l [58] else ([],[],false)
theorem cut_none {l : List UInt8} {c : UInt8} (h : c ∉ l) : Lib.cut l [c] = (l,[],false):=by
  have hi : Lib.index l [c] = -1:=Lib.index_none fun j _=>Bool.eq_false_iff.2 fun e=>h (List.mem_of_getElem? ((occ_one _ _ _).1 e))
  unfold Lib.cut;rw [hi,if_neg (by omega)]
end Q
end Ab
end Go.Proofs.YtbfhpimmlehkcaaGreatDoor
namespace Go.Proofs.YtbfhpimmlehkcaaGreatDoor
open Go.RowKit
namespace Ab
set_option maxRecDepth 100000
namespace Q
end Q
end Ab
end Go.Proofs.YtbfhpimmlehkcaaGreatDoor
namespace Go.Proofs.YtbfhpimmlehkcaaGreatDoor
open Go.RowKit
namespace Ab
set_option maxRecDepth 100000
namespace Q
def lineB (key v : ByteArray) : List ByteArray:=(linesL key.data.toList v.data.toList).map bytes
def linesA (f : Fld) : A:=if checkF f = 0 then .tup [(false,[.sl .str (lineB f.1 f.2)]),(false,[.lit .nilIface])] else .tup [(false,[.sl .str []]),(false,[errN (checkF f)])]
end Q
end Ab
end Go.Proofs.YtbfhpimmlehkcaaGreatDoor
namespace Go.Proofs.YtbfhpimmlehkcaaGreatDoor
open Go.RowKit
namespace Ab
set_option maxRecDepth 100000
namespace Q
def endL (ls : List (List UInt8)) : List UInt8:=ls.flatMap fun s=>s ++ [10]
def textL (f : Fld) : List UInt8:=endL (linesL f.1.data.toList f.2.data.toList)
def foldL (l : List Fld) : List UInt8:=l.flatMap textL
def badF (l : List Fld) : Int:=match l with
  | []=>0
  | f :: r=>if checkF f = 0 then badF r else checkF f
def foldA (l : List Fld) : A:=if badF l = 0 then .tup [(false,[.lit (.string (bytes (foldL l)))]),(false,[.lit .nilIface])] else .tup [(false,[.lit (.string ⟨#[]⟩)]),(false,[errN (badF l)])]
end Q
end Ab
end Go.Proofs.YtbfhpimmlehkcaaGreatDoor
namespace Go.Proofs.YtbfhpimmlehkcaaGreatDoor
open Go.RowKit
namespace Ab
set_option maxRecDepth 100000
namespace Q
end Q
end Ab
end Go.Proofs.YtbfhpimmlehkcaaGreatDoor
namespace Go.Proofs.YtbfhpimmlehkcaaGreatDoor
open Go.RowKit
namespace Ab
set_option maxRecDepth 100000
namespace Q
def partB (s : ByteArray) : List ByteArray:=(partsL s.data.toList).map bytes
end Q
end Ab
end Go.Proofs.YtbfhpimmlehkcaaGreatDoor
namespace Go.Proofs.YtbfhpimmlehkcaaGreatDoor
open Go.RowKit
namespace Ab
set_option maxRecDepth 100000
namespace Q
theorem list_ext_take {α : Type} {a b : List α} {i : Nat} (d : α) (ha : i < a.length) (hb : i < b.length) (h : a.take i = b.take i) (he : a.getD i d = b.getD i d) : a.take (i + 1) = b.take (i + 1):=by
  rw [← yO d ha,← yO d hb,h,he]
theorem ne_at {α : Type} {a b : List α} {i : Nat} (d : α) (he : a.getD i d ≠ b.getD i d) : ¬ a = b:=fun e=>he (by rw [e])
abbrev rFault : Rd (Int × Value):=.st (.int .i64) .raw
def errF (at_ n : Int) : C:=.ifc 151 (.addr rFault (at_,.iface 118 (.int .i64 n)))
end Q
end Ab
end Go.Proofs.YtbfhpimmlehkcaaGreatDoor
namespace Go.Proofs.YtbfhpimmlehkcaaGreatDoor
open Go.RowKit
namespace Ab
set_option maxRecDepth 100000
namespace Q
def LinesOk (l : List ByteArray) : Prop:=l.length ≤ 1000000 ∧ (l.map (·.size)).sum ≤ 100000000
theorem sum_mem {l : List ByteArray} {s : ByteArray} (h : s ∈ l) : s.size ≤ (l.map (·.size)).sum:=by
  induction l with
  | nil=>cases h
  | cons a r ih =>
    rw [List.map_cons,List.sum_cons];rcases List.mem_cons.1 h with rfl|h
    · omega
    · have:=ih h;omega
def unfA (l : List ByteArray) : A:=if (yC (l.map ls)).2 = 0 then .tup [(true,[.lit (.string (bytes (yC (l.map ls)).1.1)),.lit (.string (bytes (yC (l.map ls)).1.2))]),(false,[.lit .nilIface])]
  else .tup [(true,[.lit (.string ⟨#[]⟩),.lit (.string ⟨#[]⟩)]),(false,[errN (yC (l.map ls)).2])]
theorem unfA_bad {l : List ByteArray} {n : Int} (h : (yC (l.map ls)).2 = n) (hn : n ≠ 0) : unfA l = .tup [(true,[.lit (.string ⟨#[]⟩),.lit (.string ⟨#[]⟩)]),(false,[errN n])]:=by
  unfold unfA;rw [if_neg (by rw [h];exact hn),h]
theorem unfA_ok {l : List ByteArray} {k v : List UInt8} (h : yC (l.map ls) = ((k,v),0)) : unfA l = .tup [(true,[.lit (.string (bytes k)),.lit (.string (bytes v))]),(false,[.lit .nilIface])]:=by
  unfold unfA;rw [if_pos (by rw [h]),h]
theorem trimP_len (s p : List UInt8) : (Lib.trimPrefix s p).length ≤ s.length:=by
  unfold Lib.trimPrefix;split
  · rw [List.length_drop];omega
  · exact Nat.le_refl _
theorem joinL_len (c : UInt8) : ∀ l : List (List UInt8),(Lib.join l [c]).length ≤ (l.map (·.length)).sum + l.length
  | []=>by simp [Lib.join]
  | [a]=>by rw [Lib.join_one];simp
  | a :: b :: r=>by
    have:=joinL_len c (b :: r);rw [join_two];simp only [List.length_append,List.length_cons,List.length_nil,List.map_cons,List.sum_cons] at this ⊢;omega
theorem map_sum_le {α : Type} (f g : α → Nat) : ∀ l : List α,(∀ x ∈ l,f x ≤ g x) → (l.map f).sum ≤ (l.map g).sum
  | [],_=>Nat.le_refl _
  | a :: r,h=>by
    simp only [List.map_cons,List.sum_cons];have:=h a (by simp);have:=map_sum_le f g r fun x hx=>h x (by simp [hx])
    omega
def moreB (s : ByteArray) : ByteArray:=bytes (Lib.trimPrefix (s.data.toList.drop 1) [46])
def firstB (s : ByteArray) : ByteArray:=bytes (Lib.trimPrefix (Lib.cut s.data.toList [58]).2.1 [32])
theorem value_join (s : ByteArray) (r : List ByteArray) : Lib.join ((firstB s :: r.map moreB).map (·.data.toList)) [10] = valueL (ls s) (r.map ls):=by
  unfold valueL firstB moreB;rw [List.map_cons,bytes_list,List.map_map,List.map_map]
  congr 2
theorem value_len (s : ByteArray) (r : List ByteArray) : (valueL (ls s) (r.map ls)).length ≤ s.size + (r.map (·.size)).sum + r.length + 1:=by
  unfold valueL;refine Nat.le_trans (joinL_len 10 _) ?_;rw [List.map_cons,List.sum_cons,List.length_cons,List.map_map,List.map_map,List.length_map,List.length_map];have h1:=trimP_len (Lib.cut (ls s) [58]).2.1 [32];have h2:=(cut_len (ls s) [58]).2;have h3 : s.size = (ls s).length:=xE s;have h4:=map_sum_le (((fun l : List UInt8=>l.length) ∘ (fun s : List UInt8=>Lib.trimPrefix (s.drop 1) [46])) ∘ ls) (fun s : ByteArray=>s.size) r fun x _=>by
    have h5:=trimP_len ((ls x).drop 1) [46];have h6 : x.size = (ls x).length:=xE x;simp only [Function.comp];rw [List.length_drop] at h5;omega
  omega
theorem cutL_ok {l : List UInt8} (h : (cutL l).2.2 = true) : yK l = 4 ∧ cutL l = Lib.cut l [58] ∧ keyOk (Lib.cut l [58]).1 = true:=by
  unfold cutL at h ⊢;split
  · rename_i h4;refine ⟨h4,rfl,?_⟩;have:=h4;unfold yK at this;split at this
    · cases this
    · split at this
      · cases this
      · split at this
        · cases this
        · split at this
          · cases this
          · split at this
            · rename_i h5;rw [Bool.and_eq_true] at h5;exact h5.2
            · cases this
  · rename_i h4;rw [if_neg h4] at h;cases h
theorem cutL_no {l : List UInt8} (h : (cutL l).2.2 = false) : yK l ≠ 4:=fun h4=>by
  unfold cutL at h;rw [if_pos h4] at h;unfold yK at h4;split at h4
  · cases h4
  · split at h4
    · cases h4
    · split at h4
      · cases h4
      · split at h4
        · cases h4
        · split at h4
          · rename_i h5;rw [Bool.and_eq_true] at h5;rw [h] at h5;cases h5.1
          · cases h4
theorem kind3_pos {l : List UInt8} (h : yK l = 3) : 1 ≤ l.length:=by
  cases l with
  | nil=>cases h
  | cons a r=>simp
theorem unf_form {s : ByteArray} {r : List ByteArray} (h : yK (ls s) ≠ 4 ∨ ∃ x ∈ r,yK (ls x) ≠ 3) : (yC ((s :: r).map ls)).2 = 2:=by
  rw [List.map_cons,yC,if_pos];rcases h with h|⟨x,hx,h⟩
  · exact .inl h
  · exact .inr (List.any_eq_true.2 ⟨ls x,List.mem_map.2 ⟨x,hx,rfl⟩,by rw [decide_eq_false h];rfl⟩)
theorem unf_good {s : ByteArray} {r : List ByteArray} (h : yK (ls s) = 4) (hr : ∀ x ∈ r,yK (ls x) = 3) : yC ((s :: r).map ls) = if 1000 < (valueL (ls s) (r.map ls)).length then (([],[]),6) else (((Lib.cut (ls s) [58]).1,valueL (ls s) (r.map ls)),0):=by
  rw [List.map_cons,yC,if_neg]
  rintro (h1|h1)
  · exact h1 h
  · obtain ⟨x,hx,h2⟩:=List.any_eq_true.1 h1;obtain ⟨y,hy,rfl⟩:=List.mem_map.1 hx;rw [hr y hy] at h2;exact absurd h2 (by decide)
theorem lcut_v (s : ByteArray) (c : List UInt8 × List UInt8 × Bool) (hc : cutL s.data.toList = c) (hs : s.size ≤ 1000000000) : qT Tryz.prog 191 [is s] (cutA c):=by
  subst hc;exact lcut_c s hs
theorem drop_size (s : ByteArray) (n : Nat) : (s.extract n s.size).data.toList = s.data.toList.drop n:=by
  rw [extract_ls,List.take_of_length_le (by rw [List.length_drop,xE];omega)]
theorem more_eq (s : ByteArray) : (⟨(Lib.trimPrefix (s.extract (Int.toNat 1) (s.size : Int).toNat).data.toList ({ data:=#[46] } : ByteArray).data.toList).toArray⟩ : ByteArray) = moreB s:=by
  rw [Int.toNat_natCast,show Int.toNat 1 = 1 from rfl,drop_size];rfl
theorem join_v (s : ByteArray) (r : List ByteArray) (h : LinesOk (s :: r)) : qT Tryz.prog 143 [.one (.sl .str (firstB s :: r.map moreB)),is ⟨#[10]⟩] (is (bytes (valueL (ls s) (r.map ls)))):=by
  have h1:=h.1;have h2:=h.2;simp only [List.length_cons,List.map_cons,List.sum_cons] at h1 h2;have hv:=value_len s r;have:=join_c (firstB s :: r.map moreB) ⟨#[10]⟩ (by simp only [List.length_cons,List.length_map];omega) (by rw [show (⟨#[10]⟩ : ByteArray).data.toList = [10] from rfl,value_join];omega);rw [show (⟨#[10]⟩ : ByteArray).data.toList = [10] from rfl,value_join] at this;exact this
theorem check_kv (k v : List UInt8) (hk : keyOk k = true) : checkF (bytes k,bytes v) = if 1000 < v.length then 6 else 0:=by
  unfold checkF;rw [if_pos (by rw [bytes_list];exact hk),bytes_size]
theorem unfold_c (s0 : ByteArray) (r : List ByteArray) (hl : LinesOk (s0 :: r)) : qT Tryz.prog 168 [.one (.sl .str (s0 :: r))] (unfA (s0 :: r)):=by
  obtain ⟨l,hl0⟩ : ∃ l,s0 :: r = l:=⟨_,rfl⟩;rw [hl0] at hl ⊢;have hsz : ∀ x ∈ l,x.size ≤ 100000000:=fun x hx=>Nat.le_trans (sum_mem hx) hl.2
  have hll:=hl.1;have hd : l.drop 1 = r:=by rw [← hl0];rfl
  have h0 : l.getD 0 ByteArray.empty = s0:=by rw [← hl0];rfl
  have hs0 : s0.size ≤ 100000000:=hsz _ (by rw [← hl0];simp);obtain ⟨c,hc⟩ : ∃ c,cutL s0.data.toList = c:=⟨_,rfl⟩;have hlen : l.length = r.length + 1:=by rw [← hl0];rfl
  have hdl : (l.drop 1).length = l.length - 1:=List.length_drop;refine acall_ofc (rs:=[.cell 2 85,.tmp 3]) Tryz.func168 rfl rfl rfl teOk rfl ?_;refine qC ?_;refine qB ?_;refine qC ?_;refine qC ?_;refine qB ?_;intro l1_1
  try simp only [zds] at l1_1
  refine qK rfl (fun h14=>?_) (fun h14=>?_)
  ·try simp only [decide_eq_true_eq] at h14
   try simp only [zds] at h14
   exfalso;omega
  ·try simp only [decide_eq_false_iff_not] at h14
   try simp only [zds] at h14
   refine qM ?_;refine qC ?_;refine qB ?_;refine zai (by first|omega|assumption|decide|(simp only [zds];omega)|(simp <;> omega)) ?_;refine Or.inl ?_;refine zai (rfl) ?_;refine zei _ (zai ((lcut_v (l.getD 0 ByteArray.empty) c (by rw [h0];exact hc) (by rw [h0];omega))) ?_);refine qC ?_;refine qC ?_;refine qB ?_;refine qK rfl (fun h26=>?_) (fun h26=>?_)
   ·try simp only [Bool.not_eq_true'] at h26
    try simp only [zds] at h26
    refine qC ?_;refine qB ?_;refine qL ?_;rw [unfA_bad (n:=2) (by rw [← hl0];exact unf_form (.inl (cutL_no (by rw [show ls s0 = s0.data.toList from rfl,hc];exact h26)))) (by decide)];rfl
   ·try simp only [Bool.not_eq_false'] at h26
    try simp only [zds] at h26
    have hco : (cutL s0.data.toList).2.2 = true:=by rw [hc];exact h26
    obtain ⟨hk4,hcc,hko⟩:=cutL_ok hco;have hcl : c = Lib.cut s0.data.toList [58]:=by rw [← hc,hcc]
    refine qM ?_;refine qC ?_;refine qB ?_;refine Or.inl ?_;refine zai (rfl) ?_;refine zei _ (zai (trimPrefix_c _ _) ?_);refine qC ?_;refine qC ?_;refine qB ?_;refine zai (by first|omega|assumption|decide|(simp only [zds];omega)|(simp <;> omega)) ?_;intro l7_2
    try simp only [zds] at l7_2
    refine qN ?_;refine yE (fun (i : Nat)=>i ≤ (l.drop 1).length ∧ ∀ x ∈ (l.drop 1).take i,yK (ls x) = 3) (fun (i : Nat)=>[(2,.one (.own 0 0)),(4,is (bytes c.1)),(7,.one (.vec 1)),(33,.one (.sl .str (l.drop 1))),(34,ii .i64 (l.drop 1).length),(35,ii .i64 i)]) (fun (i : Nat)=>[(0,.box 85 [.lit (.string ⟨#[]⟩),.lit (.string ⟨#[]⟩)]),(1,.vec 9 .str (firstB s0 :: ((l.drop 1).take i).map moreB))]) 2 (fun (i : Nat)=>(l.drop 1).length - i) 0 (⟨Nat.zero_le _,by simp⟩) (qP ⟨rfl,rfl,rfl,rfl,rfl,rfl⟩ ⟨rfl,(qY (by rw [List.take_zero,List.map_nil,bytes_list,hcl];rfl))⟩ rfl) ?_;intro i hI0;obtain ⟨hi,hall⟩:=hI0;refine qC ?_;refine qB ?_;refine qC ?_;refine qK rfl (fun h36=>?_) (fun h36=>?_)
    ·try simp only [decide_eq_true_eq] at h36
     try simp only [zds] at h36
     have hlt : i < (l.drop 1).length:=by omega
     have hm:=List.mem_of_mem_drop (yT hlt ByteArray.empty);have hms:=hsz _ hm;refine qM ?_;refine qC ?_;refine qN ?_;refine qC ?_;refine qB ?_;refine zai (by first|omega|assumption|decide|(simp only [zds];omega)|(simp <;> omega)) ?_;refine qC ?_;refine qC ?_;refine qB ?_;refine Or.inl ?_;refine zai (rfl) ?_;refine zei _ (zai (kind_c ((l.drop 1).getD i ByteArray.empty) (by omega)) ?_);refine qK rfl (fun h41=>?_) (fun h41=>?_)
     ·try simp only [decide_eq_false_iff_not,Bool.not_eq_true'] at h41
      try simp only [zds] at h41
      refine qC ?_;refine qB ?_;refine qL ?_;rw [unfA_bad (n:=2) (by rw [← hl0];exact unf_form (.inr ⟨_,by rw [← hd];exact yT hlt ByteArray.empty,h41⟩)) (by decide)];rfl
     ·try simp only [decide_eq_true_eq,Bool.not_eq_false'] at h41
      try simp only [zds] at h41
      have h1:=kind3_pos h41;have hz:=xE ((l.drop 1).getD i ByteArray.empty);refine qM ?_;refine qB ?_;refine zai (by first|omega|assumption|decide|(simp only [Int.toNat_natCast,qG];omega)|(simp <;> omega)) ?_;refine Or.inl ?_;refine zai (rfl) ?_;refine zei _ (zai (trimPrefix_c _ _) ?_);refine zai (by first|exact qQ (by first|omega|(simp only [List.length_cons,List.length_nil,List.length_map,List.length_take,List.length_drop];omega)|(simp;omega)) (by decide)|omega|assumption|decide|(simp only [zds];omega)|(simp <;> omega)) ?_;refine qB ?_;refine zai (by first|omega|assumption|decide|(simp only [zds];omega)|(simp <;> omega)) ?_;exact ⟨i + 1,⟨by omega,by rw [← yO ByteArray.empty hlt];intro f hf;rcases List.mem_append.1 hf with h|h;exact hall f h;rw [List.mem_singleton.1 h];exact h41⟩,by first|omega|(simp <;> omega),qP ⟨rfl,rfl,rfl,rfl,rfl,(yX (by omega))⟩ ⟨rfl,(qY (map_next moreB ByteArray.empty hlt _ (more_eq _) [_]))⟩ rfl⟩
    ·try simp only [decide_eq_false_iff_not,Int.not_lt] at h36
     try simp only [zds] at h36
     rw [List.take_of_length_le (by omega)] at hall ⊢;rw [hd] at hall ⊢;refine yI ?_;refine qC ?_;refine qB ?_;refine Or.inl ?_;refine zai (rfl) ?_;refine zei _ (zai (join_v s0 r (by rw [hl0];exact hl)) ?_);refine qC ?_;refine qC ?_
     by_cases hv : 1000 < (valueL (ls s0) (r.map ls)).length
     ·refine qB ?_;refine Or.inl ?_;refine zai (rfl) ?_;refine zei _ (zai ((check_v (bytes c.1,bytes (valueL (ls s0) (r.map ls))) 6 (by rw [bytes_size];have:=(cut_len s0.data.toList [58]).1;rw [hcl];rw [xE] at hs0;omega) (by rw [check_kv _ _ (by rw [hcl];exact hko),if_pos hv]) : qT _ _ _ (.one (errN 6)))) ?_);refine qC ?_;refine qB ?_;refine qK rfl (fun h58=>?_) (fun h58=>?_)
      ·skip
       refine qC ?_;refine qB ?_;refine qL ?_;rw [unfA_bad (n:=6) (by rw [← hl0,unf_good hk4 hall,if_pos hv]) (by decide)];rfl
      ·try simp only [zbq] at h58
       try simp only [zds] at h58
       cases h58
     ·refine qB ?_;refine Or.inl ?_;refine zai (rfl) ?_;refine zei _ (zai ((check_v (bytes c.1,bytes (valueL (ls s0) (r.map ls))) 0 (by rw [bytes_size];have:=(cut_len s0.data.toList [58]).1;rw [hcl];rw [xE] at hs0;omega) (by rw [check_kv _ _ (by rw [hcl];exact hko),if_neg hv]) : qT _ _ _ (.one (.lit .nilIface)))) ?_);refine qC ?_;refine qB ?_;refine qK rfl (fun h58=>?_) (fun h58=>?_)
      ·try simp only [Bool.not_eq_true'] at h58
       try simp only [zds] at h58
       cases h58
      ·try simp only [Bool.not_eq_false'] at h58
       try simp only [zds] at h58
       refine qM ?_;refine qC ?_;refine qB ?_;refine qL ?_;rw [unfA_ok (k:=c.1) (v:=valueL (ls s0) (r.map ls)) (by rw [← hl0,unf_good hk4 hall,if_neg hv,hcl])];rfl
end Q
end Ab
end Go.Proofs.YtbfhpimmlehkcaaGreatDoor
namespace Go.Proofs.YtbfhpimmlehkcaaGreatDoor
open Go.RowKit
namespace Ab
set_option maxRecDepth 100000
namespace Q
theorem unfold_e : qT Tryz.prog 168 [.one (.sl .str [])] (unfA []):=by
  refine acall_ofc (rs:=[.cell 2 85,.tmp 3]) Tryz.func168 rfl rfl rfl teOk rfl ?_;refine qC ?_;refine qB ?_;refine qC ?_;refine qC ?_;refine qB ?_;intro l1_1
  try simp only [zds] at l1_1
  refine qK rfl (fun h14=>?_) (fun h14=>?_)
  ·try simp only [decide_eq_true_eq] at h14
   try simp only [zds] at h14
   refine qC ?_;refine qB ?_;refine qL ?_;rfl
  ·try simp only [decide_eq_false_iff_not] at h14
   try simp only [zds] at h14
   exact absurd rfl h14
theorem unfold_a (l : List ByteArray) (hl : LinesOk l) : qT Tryz.prog 168 [.one (.sl .str l)] (unfA l):=by
  cases l with
  | nil=>exact unfold_e
  | cons s r=>exact unfold_c s r hl
theorem kind4_key {l : List UInt8} (h4 : yK l = 4) : 10 ∉ l ∧ ((Lib.cut l [58]).2.2 && keyOk (Lib.cut l [58]).1) = true:=by
  unfold yK at h4;split at h4
  · cases h4
  · rename_i h10;refine ⟨h10,?_⟩;split at h4
    · cases h4
    · split at h4
      · cases h4
      · split at h4
        · cases h4
        · split at h4
          · rename_i h5;exact h5
          · cases h4
theorem unf_cases (L : List (List UInt8)) : (∃ n,(n = 2 ∨ n = 6) ∧ yC L = (([],[]),n)) ∨ ∃ k v,yC L = ((k,v),0) ∧ keyOk k = true ∧ v.length ≤ 1000:=by
  cases L with
  | nil=>exact .inl ⟨2,.inl rfl,rfl⟩
  | cons a r =>
    rw [yC];split
    · exact .inl ⟨2,.inl rfl,rfl⟩
    · rename_i h1;split
      · exact .inl ⟨6,.inr rfl,rfl⟩
      · rename_i h2;have h4 : yK a = 4:=Classical.not_not.1 fun h=>h1 (.inl h)
        have:=(kind4_key h4).2;rw [Bool.and_eq_true] at this;exact .inr ⟨_,_,rfl,this.2,by omega⟩
theorem unfold_bad (l : List ByteArray) (hl : LinesOk l) {n : Int} (h : yC (l.map ls) = (([],[]),n)) (hn : n = 2 ∨ n = 6) : qT Tryz.prog 168 [.one (.sl .str l)] (.tup [(true,[.lit (.string ⟨#[]⟩),.lit (.string ⟨#[]⟩)]),(false,[errN n])]):=by
  have:=unfold_a l hl;rw [unfA_bad (n:=n) (by rw [h]) (by rcases hn with rfl|rfl <;> decide)] at this;exact this
theorem unfold_ok (l : List ByteArray) (hl : LinesOk l) {k v : List UInt8} (h : yC (l.map ls) = ((k,v),0)) : qT Tryz.prog 168 [.one (.sl .str l)] (.tup [(true,[.lit (.string (bytes k)),.lit (.string (bytes v))]),(false,[.lit .nilIface])]):=by
  have:=unfold_a l hl;rw [unfA_ok h] at this;exact this
def plainL (l : List ByteArray) : Bool:=decide ((yC (l.map ls)).2 = 0) && decide (lineB (bytes (yC (l.map ls)).1.1) (bytes (yC (l.map ls)).1.2) = l)
def refUnfA (l : List ByteArray) : A:=.tup [(true,[.lit (.string (bytes (yC (l.map ls)).1.1)),.lit (.string (bytes (yC (l.map ls)).1.2))]),(false,[.lit (.int .i64 (yC (l.map ls)).2)])]
end Q
end Ab
end Go.Proofs.YtbfhpimmlehkcaaGreatDoor
namespace Go.Proofs.YtbfhpimmlehkcaaGreatDoor
open Go.RowKit
namespace Ab
set_option maxRecDepth 100000
abbrev Itm:=Int × ByteArray × List Fld
abbrev rItm : Rd Itm:=.st (.int .i64) (.st .str (.sl rFld))
abbrev Lne:=Int × Int × ByteArray × Bool
abbrev rLne : Rd Lne:=.st (.int .i64) (.st (.int .i64) (.st .str .bool))
namespace Q
structure PSt where
  lns : List ByteArray
  frm : Int
  full : Bool
  its : List Itm
  blk : List ByteArray
  flds : List Fld
  recs : Int
def xC (p : PSt) : (Int × Int) ⊕ PSt :=
  if p.lns = [] then .inr p
  else if (yC (p.lns.map ls)).2 ≠ 0 then .inl (p.frm,(yC (p.lns.map ls)).2)
  else if p.full = true then .inl (p.frm,11)
  else .inr { p with flds:=p.flds ++ [(bytes (yC (p.lns.map ls)).1.1,bytes (yC (p.lns.map ls)).1.2)],lns:=[] }
def rawB (blk : List ByteArray) : ByteArray:=bytes (Lib.join (blk.map (·.data.toList)) [10]) ++ ⟨#[10]⟩
def closeS (q : PSt) : PSt :=
  if q.blk = [] then { q with blk:=[],flds:=[] }
  else { q with its:=q.its ++ [((if q.flds = [] then 2 else 3 : Int),rawB q.blk,q.flds)],recs:=if q.flds = [] then q.recs else q.recs + 1,blk:=[],flds:=[] }
def endS (p : PSt) : (Int × Int) ⊕ PSt:=match xC p with
  | .inl e=>.inl e
  | .inr q=>.inr (closeS q)
def beginS (p : PSt) (l : Lne) : PSt:={ p with lns:=[l.2.2.1],frm:=l.1,full:=decide ((p.flds.length : Int) = 40) || (decide ((p.flds.length : Int) = 0) && decide (p.recs = 400)) }
def xG (p : PSt) (l : Lne) (kind : Int) : (Int × Int) ⊕ PSt :=
  if kind = 3 then
    if p.lns = [] then .inl (l.1,2)
    else if l.2.2.2 = true then .inr { p with lns:=p.lns ++ [l.2.2.1] }
    else xC { p with lns:=p.lns ++ [l.2.2.1] }
  else if kind = 1 then endS p
  else xC p
def lineS (q : PSt) (l : Lne) (kind : Int) : (Int × Int) ⊕ PSt :=
  if kind = 5 ∨ l.2.2.2 = false then .inl (l.1,2)
  else if kind = 1 then .inr { q with its:=q.its ++ [(1,l.2.2.1 ++ ⟨#[10]⟩,[])] }
  else if kind = 4 then .inr { beginS q l with blk:=q.blk ++ [l.2.2.1] }
  else .inr { q with blk:=q.blk ++ [l.2.2.1] }
def xB (p : PSt) (l : Lne) : (Int × Int) ⊕ PSt:=match xG p l (yK (ls l.2.2.1)) with
  | .inl e=>.inl e
  | .inr q=>lineS q l (yK (ls l.2.2.1))
structure PB (p : PSt) (B : Nat) : Prop where
  lns : p.lns.length ≤ B
  lnb : (p.lns.map (·.size)).sum ≤ B
  its : p.its.length ≤ B
  blk : p.blk.length ≤ B
  blb : (p.blk.map (·.size)).sum ≤ B
  flds : p.flds.length ≤ B
  rec0 : 0 ≤ p.recs
  recB : p.recs ≤ B
theorem PB.mono {p : PSt} {B B' : Nat} (h : PB p B) (hB : B ≤ B') : PB p B' :=
  ⟨by have:=h.lns;omega,by have:=h.lnb;omega,by have:=h.its;omega,by have:=h.blk;omega,by have:=h.blb;omega,by have:=h.flds;omega,h.rec0,by have:=h.recB;omega⟩
theorem flushS_B {p q : PSt} {B : Nat} (h : PB p B) (hf : xC p = .inr q) : PB q (B + 1):=by
  unfold xC at hf;split at hf
  · cases hf;exact h.mono (by omega)
  · split at hf
    · cases hf
    · split at hf
      · cases hf
      · cases hf;have:=h.flds;exact ⟨by simp,by simp,by have:=h.its;simp only;omega,by have:=h.blk;simp only;omega,by have:=h.blb;simp only;omega,by simp;omega,h.rec0,by have:=h.recB;simp only;omega⟩
theorem closeS_B {p : PSt} {B : Nat} (h : PB p B) : PB (closeS p) (B + 1):=by
  have h1:=h.lns;have h2:=h.lnb;have h3:=h.its;have h4:=h.rec0;have h5:=h.recB;unfold closeS;split
  · exact ⟨by simp only;omega,by simp only;omega,by simp only;omega,by simp,by simp,by simp,h4,by simp only;omega⟩
  · refine ⟨by simp only;omega,by simp only;omega,by simp;omega,by simp,by simp,by simp,?_,?_⟩
    · simp only;split <;> omega
    · simp only;split <;> omega
theorem endS_B {p q : PSt} {B : Nat} (h : PB p B) (hf : endS p = .inr q) : PB q (B + 2):=by
  unfold endS at hf;split at hf
  · cases hf
  · rename_i r e;cases hf;exact closeS_B (flushS_B h e)
theorem more_B {p : PSt} {B : Nat} (s : ByteArray) (h : PB p B) : PB { p with lns:=p.lns ++ [s] } (B + 1 + s.size):=by
  have h1:=h.lns;have h2:=h.lnb;have h3:=h.its;have h5:=h.recB;have h6:=h.blk;have h7:=h.blb;have h8:=h.flds;exact ⟨by simp;omega,by simp;omega,by simp only;omega,by simp only;omega,by simp only;omega,by simp only;omega,h.rec0,by simp only;omega⟩
theorem aheadS_B {p q : PSt} {B : Nat} {l : Lne} {k : Int} (h : PB p B) (hf : xG p l k = .inr q) : PB q (B + 2 + l.2.2.1.size):=by
  unfold xG at hf;split at hf
  · split at hf
    · cases hf
    · split at hf
      · cases hf;exact (more_B _ h).mono (by omega)
      · exact (flushS_B (more_B _ h) hf).mono (by omega)
  · split at hf
    · exact (endS_B h hf).mono (by omega)
    · exact (flushS_B h hf).mono (by omega)
theorem lineS_B {p q : PSt} {B : Nat} {l : Lne} {k : Int} (h : PB p B) (hs : l.2.2.1.size ≤ B) (_hB : 1 ≤ B) (hf : lineS p l k = .inr q) : PB q (B + 1 + l.2.2.1.size):=by
  have h1:=h.lns;have h2:=h.lnb;have h3:=h.its;have h5:=h.recB;have h6:=h.blk;have h7:=h.blb;have h8:=h.flds;unfold lineS at hf;split at hf
  · cases hf
  · split at hf
    · cases hf;exact ⟨by simp only;omega,by simp only;omega,by simp;omega,by simp only;omega,by simp only;omega,by simp only;omega,h.rec0,by simp only;omega⟩
    · split at hf
      · cases hf;exact ⟨by simp [beginS];omega,by simp [beginS],by simp only [beginS];omega,by simp;omega,by simp;omega,by simp only [beginS];omega,h.rec0,by simp only [beginS];omega⟩
      · cases hf;exact ⟨by simp only;omega,by simp only;omega,by simp only;omega,by simp;omega,by simp;omega,by simp only;omega,h.rec0,by simp only;omega⟩
theorem takeS_B {p q : PSt} {B : Nat} {l : Lne} (h : PB p B) (hf : xB p l = .inr q) : PB q (B + 3 + 2 * l.2.2.1.size):=by
  unfold xB at hf;split at hf
  · cases hf
  · rename_i r e;exact (lineS_B (aheadS_B h e) (by omega) (by omega) hf).mono (by omega)
def pst0 : PSt:=⟨[],0,false,[],[],[],0⟩
end Q
end Ab
end Go.Proofs.YtbfhpimmlehkcaaGreatDoor
namespace Go.Proofs.YtbfhpimmlehkcaaGreatDoor
open Go.RowKit
namespace Ab
set_option maxRecDepth 100000
namespace Q
theorem fault_c (at_ n : Int) : qT Tryz.prog 140 [ii .i64 at_,.one (errN n)] (.one (errF at_ n)):=by
  refine qS (rs:=[4]) Tryz.func140 rfl rfl rfl teOk rfl ?_;refine qC ?_;refine qB ?_;refine qC ?_;refine qB ?_;refine qL ?_;rfl
def psO (p : PSt) : Obs:=[(0,.box 177 [.vec 1,.lit (.int .i64 p.frm),.lit (.bool p.full),.vec 2,.vec 3,.vec 4,.lit (.int .i64 p.recs)]),(1,.vec 9 .str p.lns),(2,.vec 110 rItm p.its),(3,.vec 9 .str p.blk),(4,.vec 85 rFld p.flds)]
theorem flush_nil (p : PSt) (h : p.lns = []) : qZ Tryz.prog 142 [.one (.own 0 0)] (psO p) 5 (.one (.lit .nilIface)) (psO p) 5:=by
  refine qW (rs:=[2]) Tryz.func142 rfl rfl rfl teOk (by decide) rfl ?_;refine qC ?_;refine qB ?_;refine qC ?_;refine qC ?_;refine qB ?_;intro l1_5
  try simp only [zds] at l1_5
  refine qK rfl (fun h11=>?_) (fun h11=>?_)
  ·try simp only [decide_eq_true_eq] at h11
   try simp only [zds] at h11
   refine qC ?_;refine qB ?_;refine qL ?_;exact ⟨rfl,⟨rfl,rfl,rfl,rfl,rfl⟩,rfl⟩
  ·try simp only [decide_eq_false_iff_not] at h11
   try simp only [zds] at h11
   exact absurd (by rw [h];rfl) h11
theorem flush_good (p : PSt) {k v : List UInt8} (h0 : p.lns ≠ []) (hu : yC (p.lns.map ls) = ((k,v),0)) (hf : p.full = false) (hb : PB p 1000000) : qZ Tryz.prog 142 [.one (.own 0 0)] (psO p) 5 (.one (.lit .nilIface)) (psO { p with flds:=p.flds ++ [(bytes k,bytes v)],lns:=[] }) 5:=by
  have hfl:=hb.flds;refine qW (rs:=[2]) Tryz.func142 rfl rfl rfl teOk (by decide) rfl ?_;refine qC ?_;refine qB ?_;refine qC ?_;refine qC ?_;refine qB ?_;intro l1_5
  try simp only [zds] at l1_5
  refine qK rfl (fun h11=>?_) (fun h11=>?_)
  ·try simp only [decide_eq_true_eq] at h11
   try simp only [zds] at h11
   exact absurd (List.eq_nil_of_length_eq_zero (by omega)) h0
  ·try simp only [decide_eq_false_iff_not] at h11
   try simp only [zds] at h11
   refine qM ?_;refine qC ?_;refine acode_renew 1 rfl ?_;refine qB ?_;refine Or.inl ?_;refine zai (rfl) ?_;refine zei _ (zai (unfold_ok p.lns ⟨hb.lns,Nat.le_trans hb.lnb (by decide)⟩ hu) ?_);refine qC ?_;refine qN ?_;refine qC ?_;refine qB ?_;refine qK rfl (fun h21=>?_) (fun h21=>?_)
   ·try simp only [Bool.not_eq_true'] at h21
    try simp only [zds] at h21
    cases h21
   ·try simp only [Bool.not_eq_false'] at h21
    try simp only [zds] at h21
    refine qC ?_;refine qB ?_;refine qK rfl (fun h31=>?_) (fun h31=>?_)
    ·try simp only [zbq] at h31
     try simp only [zds] at h31
     exact absurd h31 (by rw [hf];decide)
    ·try simp only [zbq] at h31
     try simp only [zds] at h31
     refine qM ?_;refine qC ?_;refine acode_ord rfl ?_;refine qJ 0 rfl rfl rfl (by kernel_rfl) ?_;refine qJ 1 rfl rfl rfl (by kernel_rfl) ?_;refine qJ 2 rfl rfl rfl (by kernel_rfl) ?_;refine qJ 3 rfl rfl rfl (by kernel_rfl) ?_;refine qJ 4 rfl rfl rfl (by kernel_rfl) ?_;refine qE [5,6] (by kernel_rfl) rfl ?_;refine zai ?_ ?_
     ·refine qE [6] (by kernel_rfl) rfl ?_;refine qE [7] (by kernel_rfl) rfl ?_;refine qE [8] (by kernel_rfl) rfl ?_;refine zai (by first|exact qQ (by first|omega|(simp only [List.length_cons,List.length_nil];omega)|(simp;omega)) (by decide)|omega|assumption|decide|(simp only [zds];omega)|(simp <;> omega)) ?_;refine qJ 9 rfl rfl rfl (by kernel_rfl) ?_;refine qJ 10 rfl rfl rfl (by kernel_rfl) ?_;refine qE [11] (by kernel_rfl) rfl ?_;refine qJ 12 rfl rfl rfl (by kernel_rfl) ?_;refine qJ 13 rfl rfl rfl (by kernel_rfl) ?_;refine qJ 14 rfl rfl rfl (by kernel_rfl) ?_;refine qE [15] (by kernel_rfl) rfl ?_;refine qO (by kernel_rfl) ?_;refine qC ?_;refine yG 0 0 9 .str rfl rfl rfl ?_;refine acode_swap 1 7 rfl rfl ?_;refine qB ?_;refine qL ?_;exact ⟨rfl,⟨rfl,rfl,rfl,rfl,rfl⟩,rfl⟩
     ·refine qE [5,7] (by kernel_rfl) rfl ?_;refine zai ?_ ?_
      ·refine qE [7] (by kernel_rfl) rfl ?_;refine qE [8] (by kernel_rfl) rfl ?_;refine zai (by first|exact qQ (by first|omega|(simp only [List.length_cons,List.length_nil];omega)|(simp;omega)) (by decide)|omega|assumption|decide|(simp only [zds];omega)|(simp <;> omega)) ?_;refine qJ 9 rfl rfl rfl (by kernel_rfl) ?_;refine qJ 10 rfl rfl rfl (by kernel_rfl) ?_;refine qE [11] (by kernel_rfl) rfl ?_;refine qJ 12 rfl rfl rfl (by kernel_rfl) ?_;refine qJ 13 rfl rfl rfl (by kernel_rfl) ?_;refine qJ 14 rfl rfl rfl (by kernel_rfl) ?_;refine qE [15] (by kernel_rfl) rfl ?_;refine qO (by kernel_rfl) ?_;refine qC ?_;refine yG 0 0 9 .str rfl rfl rfl ?_;refine acode_swap 1 7 rfl rfl ?_;refine qB ?_;refine qL ?_;exact ⟨rfl,⟨rfl,rfl,rfl,rfl,rfl⟩,rfl⟩
      ·refine qE [5] (by kernel_rfl) rfl ?_;refine qE [8] (by kernel_rfl) rfl ?_;refine zai (by first|exact qQ (by first|omega|(simp only [List.length_cons,List.length_nil];omega)|(simp;omega)) (by decide)|omega|assumption|decide|(simp only [zds];omega)|(simp <;> omega)) ?_;refine qJ 9 rfl rfl rfl (by kernel_rfl) ?_;refine qJ 10 rfl rfl rfl (by kernel_rfl) ?_;refine qE [11] (by kernel_rfl) rfl ?_;refine qJ 12 rfl rfl rfl (by kernel_rfl) ?_;refine qJ 13 rfl rfl rfl (by kernel_rfl) ?_;refine qJ 14 rfl rfl rfl (by kernel_rfl) ?_;refine qE [15] (by kernel_rfl) rfl ?_;refine qO (by kernel_rfl) ?_;refine qC ?_;refine yG 0 0 9 .str rfl rfl rfl ?_;refine acode_swap 1 7 rfl rfl ?_;refine qB ?_;refine qL ?_;exact ⟨rfl,⟨rfl,rfl,rfl,rfl,rfl⟩,rfl⟩
theorem flush_bad (p : PSt) {n : Int} (h0 : p.lns ≠ []) (hu : yC (p.lns.map ls) = (([],[]),n)) (hn : n = 2 ∨ n = 6) (hb : PB p 1000000) : qZ Tryz.prog 142 [.one (.own 0 0)] (psO p) 5 (.one (errF p.frm n)) [] 5:=by
  refine qW (rs:=[2]) Tryz.func142 rfl rfl rfl teOk (by decide) rfl ?_;refine qC ?_;refine qB ?_;refine qC ?_;refine qC ?_;refine qB ?_;intro l1_5
  try simp only [zds] at l1_5
  refine qK rfl (fun h11=>?_) (fun h11=>?_)
  ·try simp only [decide_eq_true_eq] at h11
   try simp only [zds] at h11
   exact absurd (List.eq_nil_of_length_eq_zero (by omega)) h0
  ·try simp only [decide_eq_false_iff_not] at h11
   try simp only [zds] at h11
   refine qM ?_;refine qC ?_;refine acode_renew 1 rfl ?_;refine qB ?_;refine Or.inl ?_;refine zai (rfl) ?_;refine zei _ (zai (unfold_bad p.lns ⟨hb.lns,Nat.le_trans hb.lnb (by decide)⟩ hu hn) ?_);refine qC ?_;refine qN ?_;refine qC ?_;refine qB ?_;refine qK rfl (fun h21=>?_) (fun h21=>?_)
   ·skip
    refine qC ?_;refine qB ?_;refine Or.inl ?_;refine zai (rfl) ?_;refine zei _ (zai (fault_c p.frm n) ?_);refine qL ?_;exact ⟨rfl,trivial,rfl⟩
   ·try simp only [zbq] at h21
    try simp only [zds] at h21
    cases h21
theorem flush_full (p : PSt) {k v : List UInt8} (h0 : p.lns ≠ []) (hu : yC (p.lns.map ls) = ((k,v),0)) (hf : p.full = true) (hb : PB p 1000000) : qZ Tryz.prog 142 [.one (.own 0 0)] (psO p) 5 (.one (errF p.frm 11)) [] 5:=by
  refine qW (rs:=[2]) Tryz.func142 rfl rfl rfl teOk (by decide) rfl ?_;refine qC ?_;refine qB ?_;refine qC ?_;refine qC ?_;refine qB ?_;intro l1_5
  try simp only [zds] at l1_5
  refine qK rfl (fun h11=>?_) (fun h11=>?_)
  ·try simp only [decide_eq_true_eq] at h11
   try simp only [zds] at h11
   exact absurd (List.eq_nil_of_length_eq_zero (by omega)) h0
  ·try simp only [decide_eq_false_iff_not] at h11
   try simp only [zds] at h11
   refine qM ?_;refine qC ?_;refine acode_renew 1 rfl ?_;refine qB ?_;refine Or.inl ?_;refine zai (rfl) ?_;refine zei _ (zai (unfold_ok p.lns ⟨hb.lns,Nat.le_trans hb.lnb (by decide)⟩ hu) ?_);refine qC ?_;refine qN ?_;refine qC ?_;refine qB ?_;refine qK rfl (fun h21=>?_) (fun h21=>?_)
   ·try simp only [Bool.not_eq_true'] at h21
    try simp only [zds] at h21
    cases h21
   ·try simp only [Bool.not_eq_false'] at h21
    try simp only [zds] at h21
    refine qC ?_;refine qB ?_;refine qK rfl (fun h31=>?_) (fun h31=>?_)
    ·try simp only [zbq] at h31
     try simp only [zds] at h31
     refine qC ?_;refine qB ?_;refine Or.inl ?_;refine zai (rfl) ?_;refine zei _ (zai (fault_c p.frm 11) ?_);refine qL ?_;exact ⟨rfl,trivial,rfl⟩
    ·try simp only [zbq] at h31
     try simp only [zds] at h31
     exact absurd h31 (by rw [hf];decide)
theorem flush_ok {p q : PSt} (h : xC p = .inr q) (hb : PB p 1000000) : qZ Tryz.prog 142 [.one (.own 0 0)] (psO p) 5 (.one (.lit .nilIface)) (psO q) 5:=by
  unfold xC at h;split at h
  · rename_i h0;cases h;exact flush_nil p h0
  · rename_i h0;rcases unf_cases (p.lns.map ls) with ⟨n,hn,hu⟩|⟨k,v,hu,_,_⟩
    · rw [hu,if_pos (by rcases hn with rfl|rfl <;> decide)] at h;cases h
    · rw [hu,if_neg (by simp)] at h;split at h
      · cases h
      · rename_i hf;cases h;exact flush_good p h0 hu (by simpa using hf) hb
theorem flush_err {p : PSt} {at_ n : Int} (h : xC p = .inl (at_,n)) (hb : PB p 1000000) : qZ Tryz.prog 142 [.one (.own 0 0)] (psO p) 5 (.one (errF at_ n)) [] 5:=by
  unfold xC at h;split at h
  · cases h
  · rename_i h0;rcases unf_cases (p.lns.map ls) with ⟨m,hn,hu⟩|⟨k,v,hu,_,_⟩
    · rw [hu,if_pos (by rcases hn with rfl|rfl <;> decide)] at h;cases h;exact flush_bad p h0 hu hn hb
    · rw [hu,if_neg (by simp)] at h;split at h
      · rename_i hf;cases h;exact flush_full p h0 hu hf hb
      · cases h
end Q
end Ab
end Go.Proofs.YtbfhpimmlehkcaaGreatDoor
namespace Go.Proofs.YtbfhpimmlehkcaaGreatDoor
open Go.RowKit
namespace Ab
set_option maxRecDepth 100000
set_option maxHeartbeats 4000000
namespace Q
theorem join_sz (l : List ByteArray) : (Lib.join (l.map (·.data.toList)) [10]).length ≤ (l.map (·.size)).sum + l.length:=by
  refine Nat.le_trans (joinL_len 10 _) ?_;rw [List.map_map,List.length_map];refine Nat.add_le_add_right (Nat.le_of_eq ?_) _;exact congrArg _ (List.map_congr_left fun s _=>(xE s).symm)
theorem raw_sz {l : List ByteArray} (h1 : l.length ≤ 2000000) (h2 : (l.map (·.size)).sum ≤ 2000000) : ByteArray.size { data:=(Lib.join (l.map (fun x=>x.data.toList)) [10]).toArray } ≤ 4000000:=by
  have:=join_sz l;show Array.size _ ≤ _;rw [List.size_toArray];omega
theorem end_nil {p q : PSt} (h : xC p = .inr q) (hq : q.blk = []) (hb : PB p 1000000) : qZ Tryz.prog 97 [.one (.own 0 0)] (psO p) 5 (.one (.lit .nilIface)) (psO { q with blk:=[],flds:=[] }) 5:=by
  refine qW (rs:=[2]) Tryz.func97 rfl rfl rfl teOk (by decide) rfl ?_;refine qC ?_;refine qB ?_;refine qC ?_;refine qC ?_;refine qB ?_;refine Or.inr (Or.inl (zei [] (zei [0,1,2,3,4] (zei _ (zei _ (zei _ (zei _ (zei _ (zai (flush_ok h hb) (zai rfl (zai (zai (zai rfl rfl) (zai (zai rfl rfl) (zai (zai rfl rfl) (zai (zai rfl rfl) (zai (zai rfl rfl) True.intro))))) (zai rfl ?_))))))))))));refine qC ?_;refine qB ?_;refine qK rfl (fun h8=>?_) (fun h8=>?_)
  ·try simp only [Bool.not_eq_true'] at h8
   try simp only [zds] at h8
   cases h8
  ·try simp only [Bool.not_eq_false'] at h8
   try simp only [zds] at h8
   refine qM ?_;refine qC ?_;refine qC ?_;refine acode_renew 3 rfl ?_;refine acode_renew 4 rfl ?_;refine qB ?_;intro l4_4
   try simp only [zds] at l4_4
   refine qK rfl (fun h15=>?_) (fun h15=>?_)
   ·try simp only [decide_eq_true_eq] at h15
    try simp only [zds] at h15
    exact absurd (by rw [hq];rfl : (q.blk.length : Int) = 0) (by omega)
   ·try simp only [decide_eq_false_iff_not,Int.not_lt] at h15
    try simp only [zds] at h15
    refine qM ?_;refine qC ?_;refine qB ?_;refine qC ?_;refine yG 0 4 9 .str rfl rfl rfl ?_;refine acode_swap 3 5 rfl rfl ?_;refine yG 0 5 85 rFld rfl rfl rfl ?_;refine acode_swap 4 6 rfl rfl ?_;refine qB ?_;refine qL ?_;exact ⟨rfl,⟨rfl,rfl,rfl,rfl,rfl⟩,rfl⟩
theorem end_blk {p q : PSt} (h : xC p = .inr q) (hq : q.blk ≠ []) (hb : PB p 1000000) (hb2 : PB q 2000000) : qZ Tryz.prog 97 [.one (.own 0 0)] (psO p) 5 (.one (.lit .nilIface)) (psO { q with its:=q.its ++ [((if q.flds = [] then 2 else 3 : Int),rawB q.blk,q.flds)],recs:=(if q.flds = [] then q.recs else q.recs + 1),blk:=[],flds:=[] }) 5:=by
  have hi:=hb2.its;have hjs:=raw_sz hb2.blk hb2.blb;have hr0:=hb2.rec0;have hrB:=hb2.recB;refine qW (rs:=[2]) Tryz.func97 rfl rfl rfl teOk (by decide) rfl ?_;refine qC ?_;refine qB ?_;refine qC ?_;refine qC ?_;refine qB ?_;refine Or.inr (Or.inl (zei [] (zei [0,1,2,3,4] (zei _ (zei _ (zei _ (zei _ (zei _ (zai (flush_ok h hb) (zai rfl (zai (zai (zai rfl rfl) (zai (zai rfl rfl) (zai (zai rfl rfl) (zai (zai rfl rfl) (zai (zai rfl rfl) True.intro))))) (zai rfl ?_))))))))))));refine qC ?_;refine qB ?_;refine qK rfl (fun h8=>?_) (fun h8=>?_)
  ·try simp only [Bool.not_eq_true'] at h8
   try simp only [zds] at h8
   cases h8
  ·try simp only [Bool.not_eq_false'] at h8
   try simp only [zds] at h8
   refine qM ?_;refine acode_cut (fun (u : Unit)=>True) (fun (u : Unit)=>[(0,.one (.own 0 0))]) (fun (u : Unit)=>[(0,.box 177 [.vec 1,.lit (.int .i64 q.frm),.lit (.bool q.full),.vec 2,.sl .str q.blk,.sl rFld q.flds,.lit (.int .i64 (if q.flds = [] then q.recs else q.recs + 1))]),(1,.vec 9 .str q.lns),(2,.vec 110 rItm (q.its ++ [((if q.flds = [] then 2 else 3 : Int),rawB q.blk,q.flds)])),(3,.vec 9 .str []),(4,.vec 85 rFld [])]) 5 ?_ ?_
   ·refine qC ?_;refine acode_renew 3 rfl ?_;refine acode_renew 4 rfl ?_;refine qB ?_;intro l4_4
    try simp only [zds] at l4_4
    refine qK rfl (fun h15=>?_) (fun h15=>?_)
    ·try simp only [decide_eq_true_eq] at h15
     try simp only [zds] at h15
     refine qC ?_;refine qB ?_;refine acode_cut (fun (u : Int × Int)=>u = ((if q.flds = [] then 2 else 3 : Int),(if q.flds = [] then q.recs else q.recs + 1))) (fun (u : Int × Int)=>[(0,.one (.own 0 0)),(4,ii .i64 u.1)]) (fun (u : Int × Int)=>[(0,.box 177 [.vec 1,.lit (.int .i64 q.frm),.lit (.bool q.full),.vec 2,.sl .str q.blk,.sl rFld q.flds,.lit (.int .i64 u.2)]),(1,.vec 9 .str q.lns),(2,.vec 110 rItm q.its),(3,.vec 9 .str []),(4,.vec 85 rFld [])]) 5 ?_ ?_
     ·refine qC ?_;refine qB ?_;intro l6_4
      try simp only [zds] at l6_4
      refine qK rfl (fun h21=>?_) (fun h21=>?_)
      ·try simp only [decide_eq_true_eq] at h21
       try simp only [zds] at h21
       refine qC ?_;refine qB ?_;refine qB ?_;refine zai (by first|omega|assumption|decide|(simp only [zds];omega)|(simp <;> omega)) ?_;exact ⟨(3,q.recs + 1),by have hf : q.flds ≠ []:=(fun e=>by rw [e] at h21;simp at h21);simp only [if_neg hf],qP ⟨rfl,rfl⟩ ⟨rfl,rfl,rfl,rfl,rfl⟩ rfl⟩
      ·try simp only [decide_eq_false_iff_not,Int.not_lt] at h21
       try simp only [zds] at h21
       refine qM ?_;exact ⟨(2,q.recs),by have hf : q.flds = []:=List.eq_nil_of_length_eq_zero (by omega);simp only [if_pos hf],qP ⟨rfl,rfl⟩ ⟨rfl,rfl,rfl,rfl,rfl⟩ rfl⟩
     ·intro u hcut9;obtain ⟨k,rc⟩:=u;obtain ⟨rfl,rfl⟩:=Prod.mk.inj hcut9;refine acode_ord rfl ?_;refine qJ 0 rfl rfl rfl (by kernel_rfl) ?_;refine qJ 1 rfl rfl rfl (by kernel_rfl) ?_;refine qJ 2 rfl rfl rfl (by kernel_rfl) ?_;refine qJ 3 rfl rfl rfl (by kernel_rfl) ?_;refine qJ 5 rfl rfl rfl (by kernel_rfl) ?_;refine qJ 6 rfl rfl rfl (by kernel_rfl) ?_;refine qJ 7 rfl rfl rfl (by kernel_rfl) ?_;refine qJ 8 rfl rfl rfl (by kernel_rfl) ?_;refine qJ 12 rfl rfl rfl (by kernel_rfl) ?_;refine qJ 13 rfl rfl rfl (by kernel_rfl) ?_;refine qJ 14 rfl rfl rfl (by kernel_rfl) ?_;refine qE [4,9,15] (by kernel_rfl) rfl ?_;refine zai ?_ ?_
      ·refine qE [9,15] (by kernel_rfl) rfl ?_;refine zai ?_ ?_
       ·refine qE [10,15] (by kernel_rfl) rfl ?_;refine zai ?_ ?_
        ·refine Or.inl ?_;refine zai (rfl) ?_;refine zei _ (zai (join_c q.blk ⟨#[10]⟩ (Nat.le_trans hb2.blk (by decide)) (Nat.le_trans (join_sz q.blk) (by have:=hb2.blk;have:=hb2.blb;omega))) ?_);refine qJ 11 rfl rfl rfl (by kernel_rfl) ?_;refine zai (by (have hk0 : ByteArray.size { data:=#[10] } = 1:=rfl;first|(unfold maxLen;omega)|(simp only [];omega)|(unfold maxLen;(try simp only []);omega))) ?_;refine qE [15] (by kernel_rfl) rfl ?_;refine qE [16] (by kernel_rfl) rfl ?_;refine qE [17] (by kernel_rfl) rfl ?_;refine qE [18] (by kernel_rfl) rfl ?_;refine zai (by first|exact qQ (by first|omega|(simp only [List.length_cons,List.length_nil];omega)|(simp;omega)) (by decide)|omega|assumption|decide|(simp only [zds];omega)|(simp <;> omega)) ?_;refine qJ 19 rfl rfl rfl (by kernel_rfl) ?_;refine qJ 20 rfl rfl rfl (by kernel_rfl) ?_;refine qE [21] (by kernel_rfl) rfl ?_;refine qO (by kernel_rfl) ?_;exact ⟨(),trivial,qP rfl ⟨rfl,rfl,rfl,rfl,rfl⟩ rfl⟩
        ·refine qE [10] (by kernel_rfl) rfl ?_;refine Or.inl ?_;refine zai (rfl) ?_;refine zei _ (zai (join_c q.blk ⟨#[10]⟩ (Nat.le_trans hb2.blk (by decide)) (Nat.le_trans (join_sz q.blk) (by have:=hb2.blk;have:=hb2.blb;omega))) ?_);refine qJ 11 rfl rfl rfl (by kernel_rfl) ?_;refine zai (by (have hk0 : ByteArray.size { data:=#[10] } = 1:=rfl;first|(unfold maxLen;omega)|(simp only [];omega)|(unfold maxLen;(try simp only []);omega))) ?_;refine qE [16] (by kernel_rfl) rfl ?_;refine qE [17] (by kernel_rfl) rfl ?_;refine qE [18] (by kernel_rfl) rfl ?_;refine zai (by first|exact qQ (by first|omega|(simp only [List.length_cons,List.length_nil];omega)|(simp;omega)) (by decide)|omega|assumption|decide|(simp only [zds];omega)|(simp <;> omega)) ?_;refine qJ 19 rfl rfl rfl (by kernel_rfl) ?_;refine qJ 20 rfl rfl rfl (by kernel_rfl) ?_;refine qE [21] (by kernel_rfl) rfl ?_;refine qO (by kernel_rfl) ?_;exact ⟨(),trivial,qP rfl ⟨rfl,rfl,rfl,rfl,rfl⟩ rfl⟩
       ·refine qE [9] (by kernel_rfl) rfl ?_;refine qE [10] (by kernel_rfl) rfl ?_;refine Or.inl ?_;refine zai (rfl) ?_;refine zei _ (zai (join_c q.blk ⟨#[10]⟩ (Nat.le_trans hb2.blk (by decide)) (Nat.le_trans (join_sz q.blk) (by have:=hb2.blk;have:=hb2.blb;omega))) ?_);refine qJ 11 rfl rfl rfl (by kernel_rfl) ?_;refine zai (by (have hk0 : ByteArray.size { data:=#[10] } = 1:=rfl;first|(unfold maxLen;omega)|(simp only [];omega)|(unfold maxLen;(try simp only []);omega))) ?_;refine qE [16] (by kernel_rfl) rfl ?_;refine qE [17] (by kernel_rfl) rfl ?_;refine qE [18] (by kernel_rfl) rfl ?_;refine zai (by first|exact qQ (by first|omega|(simp only [List.length_cons,List.length_nil];omega)|(simp;omega)) (by decide)|omega|assumption|decide|(simp only [zds];omega)|(simp <;> omega)) ?_;refine qJ 19 rfl rfl rfl (by kernel_rfl) ?_;refine qJ 20 rfl rfl rfl (by kernel_rfl) ?_;refine qE [21] (by kernel_rfl) rfl ?_;refine qO (by kernel_rfl) ?_;exact ⟨(),trivial,qP rfl ⟨rfl,rfl,rfl,rfl,rfl⟩ rfl⟩
      refine zai ?_ ?_
      ·refine qE [4,10,15] (by kernel_rfl) rfl ?_;refine zai ?_ ?_
       ·refine qE [10,15] (by kernel_rfl) rfl ?_;refine zai ?_ ?_
        ·refine Or.inl ?_;refine zai (rfl) ?_;refine zei _ (zai (join_c q.blk ⟨#[10]⟩ (Nat.le_trans hb2.blk (by decide)) (Nat.le_trans (join_sz q.blk) (by have:=hb2.blk;have:=hb2.blb;omega))) ?_);refine qJ 11 rfl rfl rfl (by kernel_rfl) ?_;refine zai (by (have hk0 : ByteArray.size { data:=#[10] } = 1:=rfl;first|(unfold maxLen;omega)|(simp only [];omega)|(unfold maxLen;(try simp only []);omega))) ?_;refine qE [15] (by kernel_rfl) rfl ?_;refine qE [16] (by kernel_rfl) rfl ?_;refine qE [17] (by kernel_rfl) rfl ?_;refine qE [18] (by kernel_rfl) rfl ?_;refine zai (by first|exact qQ (by first|omega|(simp only [List.length_cons,List.length_nil];omega)|(simp;omega)) (by decide)|omega|assumption|decide|(simp only [zds];omega)|(simp <;> omega)) ?_;refine qJ 19 rfl rfl rfl (by kernel_rfl) ?_;refine qJ 20 rfl rfl rfl (by kernel_rfl) ?_;refine qE [21] (by kernel_rfl) rfl ?_;refine qO (by kernel_rfl) ?_;exact ⟨(),trivial,qP rfl ⟨rfl,rfl,rfl,rfl,rfl⟩ rfl⟩
        ·refine qE [10] (by kernel_rfl) rfl ?_;refine Or.inl ?_;refine zai (rfl) ?_;refine zei _ (zai (join_c q.blk ⟨#[10]⟩ (Nat.le_trans hb2.blk (by decide)) (Nat.le_trans (join_sz q.blk) (by have:=hb2.blk;have:=hb2.blb;omega))) ?_);refine qJ 11 rfl rfl rfl (by kernel_rfl) ?_;refine zai (by (have hk0 : ByteArray.size { data:=#[10] } = 1:=rfl;first|(unfold maxLen;omega)|(simp only [];omega)|(unfold maxLen;(try simp only []);omega))) ?_;refine qE [16] (by kernel_rfl) rfl ?_;refine qE [17] (by kernel_rfl) rfl ?_;refine qE [18] (by kernel_rfl) rfl ?_;refine zai (by first|exact qQ (by first|omega|(simp only [List.length_cons,List.length_nil];omega)|(simp;omega)) (by decide)|omega|assumption|decide|(simp only [zds];omega)|(simp <;> omega)) ?_;refine qJ 19 rfl rfl rfl (by kernel_rfl) ?_;refine qJ 20 rfl rfl rfl (by kernel_rfl) ?_;refine qE [21] (by kernel_rfl) rfl ?_;refine qO (by kernel_rfl) ?_;exact ⟨(),trivial,qP rfl ⟨rfl,rfl,rfl,rfl,rfl⟩ rfl⟩
       refine zai ?_ ?_
       ·refine Or.inl ?_;refine zai (rfl) ?_;refine zei _ (zai (join_c q.blk ⟨#[10]⟩ (Nat.le_trans hb2.blk (by decide)) (Nat.le_trans (join_sz q.blk) (by have:=hb2.blk;have:=hb2.blb;omega))) ?_);refine qJ 11 rfl rfl rfl (by kernel_rfl) ?_;refine zai (by (have hk0 : ByteArray.size { data:=#[10] } = 1:=rfl;first|(unfold maxLen;omega)|(simp only [];omega)|(unfold maxLen;(try simp only []);omega))) ?_;refine qE [4,15] (by kernel_rfl) rfl ?_;refine zai ?_ ?_
        ·refine qE [15] (by kernel_rfl) rfl ?_;refine qE [16] (by kernel_rfl) rfl ?_;refine qE [17] (by kernel_rfl) rfl ?_;refine qE [18] (by kernel_rfl) rfl ?_;refine zai (by first|exact qQ (by first|omega|(simp only [List.length_cons,List.length_nil];omega)|(simp;omega)) (by decide)|omega|assumption|decide|(simp only [zds];omega)|(simp <;> omega)) ?_;refine qJ 19 rfl rfl rfl (by kernel_rfl) ?_;refine qJ 20 rfl rfl rfl (by kernel_rfl) ?_;refine qE [21] (by kernel_rfl) rfl ?_;refine qO (by kernel_rfl) ?_;exact ⟨(),trivial,qP rfl ⟨rfl,rfl,rfl,rfl,rfl⟩ rfl⟩
        ·refine qE [4,16] (by kernel_rfl) rfl ?_;refine zai ?_ ?_
         ·refine qE [16] (by kernel_rfl) rfl ?_;refine qE [17] (by kernel_rfl) rfl ?_;refine qE [18] (by kernel_rfl) rfl ?_;refine zai (by first|exact qQ (by first|omega|(simp only [List.length_cons,List.length_nil];omega)|(simp;omega)) (by decide)|omega|assumption|decide|(simp only [zds];omega)|(simp <;> omega)) ?_;refine qJ 19 rfl rfl rfl (by kernel_rfl) ?_;refine qJ 20 rfl rfl rfl (by kernel_rfl) ?_;refine qE [21] (by kernel_rfl) rfl ?_;refine qO (by kernel_rfl) ?_;exact ⟨(),trivial,qP rfl ⟨rfl,rfl,rfl,rfl,rfl⟩ rfl⟩
         ·refine qE [4,17] (by kernel_rfl) rfl ?_;refine zai ?_ ?_
          ·refine qE [17] (by kernel_rfl) rfl ?_;refine qE [18] (by kernel_rfl) rfl ?_;refine zai (by first|exact qQ (by first|omega|(simp only [List.length_cons,List.length_nil];omega)|(simp;omega)) (by decide)|omega|assumption|decide|(simp only [zds];omega)|(simp <;> omega)) ?_;refine qJ 19 rfl rfl rfl (by kernel_rfl) ?_;refine qJ 20 rfl rfl rfl (by kernel_rfl) ?_;refine qE [21] (by kernel_rfl) rfl ?_;refine qO (by kernel_rfl) ?_;exact ⟨(),trivial,qP rfl ⟨rfl,rfl,rfl,rfl,rfl⟩ rfl⟩
          ·refine qE [4] (by kernel_rfl) rfl ?_;refine qE [18] (by kernel_rfl) rfl ?_;refine zai (by first|exact qQ (by first|omega|(simp only [List.length_cons,List.length_nil];omega)|(simp;omega)) (by decide)|omega|assumption|decide|(simp only [zds];omega)|(simp <;> omega)) ?_;refine qJ 19 rfl rfl rfl (by kernel_rfl) ?_;refine qJ 20 rfl rfl rfl (by kernel_rfl) ?_;refine qE [21] (by kernel_rfl) rfl ?_;refine qO (by kernel_rfl) ?_;exact ⟨(),trivial,qP rfl ⟨rfl,rfl,rfl,rfl,rfl⟩ rfl⟩
       ·refine qE [4,10] (by kernel_rfl) rfl ?_;refine zai ?_ ?_
        ·refine qE [10] (by kernel_rfl) rfl ?_;refine Or.inl ?_;refine zai (rfl) ?_;refine zei _ (zai (join_c q.blk ⟨#[10]⟩ (Nat.le_trans hb2.blk (by decide)) (Nat.le_trans (join_sz q.blk) (by have:=hb2.blk;have:=hb2.blb;omega))) ?_);refine qJ 11 rfl rfl rfl (by kernel_rfl) ?_;refine zai (by (have hk0 : ByteArray.size { data:=#[10] } = 1:=rfl;first|(unfold maxLen;omega)|(simp only [];omega)|(unfold maxLen;(try simp only []);omega))) ?_;refine qE [16] (by kernel_rfl) rfl ?_;refine qE [17] (by kernel_rfl) rfl ?_;refine qE [18] (by kernel_rfl) rfl ?_;refine zai (by first|exact qQ (by first|omega|(simp only [List.length_cons,List.length_nil];omega)|(simp;omega)) (by decide)|omega|assumption|decide|(simp only [zds];omega)|(simp <;> omega)) ?_;refine qJ 19 rfl rfl rfl (by kernel_rfl) ?_;refine qJ 20 rfl rfl rfl (by kernel_rfl) ?_;refine qE [21] (by kernel_rfl) rfl ?_;refine qO (by kernel_rfl) ?_;exact ⟨(),trivial,qP rfl ⟨rfl,rfl,rfl,rfl,rfl⟩ rfl⟩
        ·refine Or.inl ?_;refine zai (rfl) ?_;refine zei _ (zai (join_c q.blk ⟨#[10]⟩ (Nat.le_trans hb2.blk (by decide)) (Nat.le_trans (join_sz q.blk) (by have:=hb2.blk;have:=hb2.blb;omega))) ?_);refine qJ 11 rfl rfl rfl (by kernel_rfl) ?_;refine zai (by (have hk0 : ByteArray.size { data:=#[10] } = 1:=rfl;first|(unfold maxLen;omega)|(simp only [];omega)|(unfold maxLen;(try simp only []);omega))) ?_;refine qE [4,16] (by kernel_rfl) rfl ?_;refine zai ?_ ?_
         ·refine qE [16] (by kernel_rfl) rfl ?_;refine qE [17] (by kernel_rfl) rfl ?_;refine qE [18] (by kernel_rfl) rfl ?_;refine zai (by first|exact qQ (by first|omega|(simp only [List.length_cons,List.length_nil];omega)|(simp;omega)) (by decide)|omega|assumption|decide|(simp only [zds];omega)|(simp <;> omega)) ?_;refine qJ 19 rfl rfl rfl (by kernel_rfl) ?_;refine qJ 20 rfl rfl rfl (by kernel_rfl) ?_;refine qE [21] (by kernel_rfl) rfl ?_;refine qO (by kernel_rfl) ?_;exact ⟨(),trivial,qP rfl ⟨rfl,rfl,rfl,rfl,rfl⟩ rfl⟩
         ·refine qE [4,17] (by kernel_rfl) rfl ?_;refine zai ?_ ?_
          ·refine qE [17] (by kernel_rfl) rfl ?_;refine qE [18] (by kernel_rfl) rfl ?_;refine zai (by first|exact qQ (by first|omega|(simp only [List.length_cons,List.length_nil];omega)|(simp;omega)) (by decide)|omega|assumption|decide|(simp only [zds];omega)|(simp <;> omega)) ?_;refine qJ 19 rfl rfl rfl (by kernel_rfl) ?_;refine qJ 20 rfl rfl rfl (by kernel_rfl) ?_;refine qE [21] (by kernel_rfl) rfl ?_;refine qO (by kernel_rfl) ?_;exact ⟨(),trivial,qP rfl ⟨rfl,rfl,rfl,rfl,rfl⟩ rfl⟩
          ·refine qE [4] (by kernel_rfl) rfl ?_;refine qE [18] (by kernel_rfl) rfl ?_;refine zai (by first|exact qQ (by first|omega|(simp only [List.length_cons,List.length_nil];omega)|(simp;omega)) (by decide)|omega|assumption|decide|(simp only [zds];omega)|(simp <;> omega)) ?_;refine qJ 19 rfl rfl rfl (by kernel_rfl) ?_;refine qJ 20 rfl rfl rfl (by kernel_rfl) ?_;refine qE [21] (by kernel_rfl) rfl ?_;refine qO (by kernel_rfl) ?_;exact ⟨(),trivial,qP rfl ⟨rfl,rfl,rfl,rfl,rfl⟩ rfl⟩
      ·refine qE [4,9] (by kernel_rfl) rfl ?_;refine zai ?_ ?_
       ·refine qE [9] (by kernel_rfl) rfl ?_;refine qE [10] (by kernel_rfl) rfl ?_;refine Or.inl ?_;refine zai (rfl) ?_;refine zei _ (zai (join_c q.blk ⟨#[10]⟩ (Nat.le_trans hb2.blk (by decide)) (Nat.le_trans (join_sz q.blk) (by have:=hb2.blk;have:=hb2.blb;omega))) ?_);refine qJ 11 rfl rfl rfl (by kernel_rfl) ?_;refine zai (by (have hk0 : ByteArray.size { data:=#[10] } = 1:=rfl;first|(unfold maxLen;omega)|(simp only [];omega)|(unfold maxLen;(try simp only []);omega))) ?_;refine qE [16] (by kernel_rfl) rfl ?_;refine qE [17] (by kernel_rfl) rfl ?_;refine qE [18] (by kernel_rfl) rfl ?_;refine zai (by first|exact qQ (by first|omega|(simp only [List.length_cons,List.length_nil];omega)|(simp;omega)) (by decide)|omega|assumption|decide|(simp only [zds];omega)|(simp <;> omega)) ?_;refine qJ 19 rfl rfl rfl (by kernel_rfl) ?_;refine qJ 20 rfl rfl rfl (by kernel_rfl) ?_;refine qE [21] (by kernel_rfl) rfl ?_;refine qO (by kernel_rfl) ?_;exact ⟨(),trivial,qP rfl ⟨rfl,rfl,rfl,rfl,rfl⟩ rfl⟩
       ·refine qE [4,10] (by kernel_rfl) rfl ?_;refine zai ?_ ?_
        ·refine qE [10] (by kernel_rfl) rfl ?_;refine Or.inl ?_;refine zai (rfl) ?_;refine zei _ (zai (join_c q.blk ⟨#[10]⟩ (Nat.le_trans hb2.blk (by decide)) (Nat.le_trans (join_sz q.blk) (by have:=hb2.blk;have:=hb2.blb;omega))) ?_);refine qJ 11 rfl rfl rfl (by kernel_rfl) ?_;refine zai (by (have hk0 : ByteArray.size { data:=#[10] } = 1:=rfl;first|(unfold maxLen;omega)|(simp only [];omega)|(unfold maxLen;(try simp only []);omega))) ?_;refine qE [16] (by kernel_rfl) rfl ?_;refine qE [17] (by kernel_rfl) rfl ?_;refine qE [18] (by kernel_rfl) rfl ?_;refine zai (by first|exact qQ (by first|omega|(simp only [List.length_cons,List.length_nil];omega)|(simp;omega)) (by decide)|omega|assumption|decide|(simp only [zds];omega)|(simp <;> omega)) ?_;refine qJ 19 rfl rfl rfl (by kernel_rfl) ?_;refine qJ 20 rfl rfl rfl (by kernel_rfl) ?_;refine qE [21] (by kernel_rfl) rfl ?_;refine qO (by kernel_rfl) ?_;exact ⟨(),trivial,qP rfl ⟨rfl,rfl,rfl,rfl,rfl⟩ rfl⟩
        ·refine Or.inl ?_;refine zai (rfl) ?_;refine zei _ (zai (join_c q.blk ⟨#[10]⟩ (Nat.le_trans hb2.blk (by decide)) (Nat.le_trans (join_sz q.blk) (by have:=hb2.blk;have:=hb2.blb;omega))) ?_);refine qJ 11 rfl rfl rfl (by kernel_rfl) ?_;refine zai (by (have hk0 : ByteArray.size { data:=#[10] } = 1:=rfl;first|(unfold maxLen;omega)|(simp only [];omega)|(unfold maxLen;(try simp only []);omega))) ?_;refine qE [4,16] (by kernel_rfl) rfl ?_;refine zai ?_ ?_
         ·refine qE [16] (by kernel_rfl) rfl ?_;refine qE [17] (by kernel_rfl) rfl ?_;refine qE [18] (by kernel_rfl) rfl ?_;refine zai (by first|exact qQ (by first|omega|(simp only [List.length_cons,List.length_nil];omega)|(simp;omega)) (by decide)|omega|assumption|decide|(simp only [zds];omega)|(simp <;> omega)) ?_;refine qJ 19 rfl rfl rfl (by kernel_rfl) ?_;refine qJ 20 rfl rfl rfl (by kernel_rfl) ?_;refine qE [21] (by kernel_rfl) rfl ?_;refine qO (by kernel_rfl) ?_;exact ⟨(),trivial,qP rfl ⟨rfl,rfl,rfl,rfl,rfl⟩ rfl⟩
         ·refine qE [4,17] (by kernel_rfl) rfl ?_;refine zai ?_ ?_
          ·refine qE [17] (by kernel_rfl) rfl ?_;refine qE [18] (by kernel_rfl) rfl ?_;refine zai (by first|exact qQ (by first|omega|(simp only [List.length_cons,List.length_nil];omega)|(simp;omega)) (by decide)|omega|assumption|decide|(simp only [zds];omega)|(simp <;> omega)) ?_;refine qJ 19 rfl rfl rfl (by kernel_rfl) ?_;refine qJ 20 rfl rfl rfl (by kernel_rfl) ?_;refine qE [21] (by kernel_rfl) rfl ?_;refine qO (by kernel_rfl) ?_;exact ⟨(),trivial,qP rfl ⟨rfl,rfl,rfl,rfl,rfl⟩ rfl⟩
          ·refine qE [4] (by kernel_rfl) rfl ?_;refine qE [18] (by kernel_rfl) rfl ?_;refine zai (by first|exact qQ (by first|omega|(simp only [List.length_cons,List.length_nil];omega)|(simp;omega)) (by decide)|omega|assumption|decide|(simp only [zds];omega)|(simp <;> omega)) ?_;refine qJ 19 rfl rfl rfl (by kernel_rfl) ?_;refine qJ 20 rfl rfl rfl (by kernel_rfl) ?_;refine qE [21] (by kernel_rfl) rfl ?_;refine qO (by kernel_rfl) ?_;exact ⟨(),trivial,qP rfl ⟨rfl,rfl,rfl,rfl,rfl⟩ rfl⟩
    ·try simp only [decide_eq_false_iff_not,Int.not_lt] at h15
     try simp only [zds] at h15
     exact absurd (List.eq_nil_of_length_eq_zero (by omega)) hq
   ·intro u hcut10;refine qC ?_;refine qB ?_;refine qC ?_;refine yG 0 4 9 .str rfl rfl rfl ?_;refine acode_swap 3 5 rfl rfl ?_;refine yG 0 5 85 rFld rfl rfl rfl ?_;refine acode_swap 4 6 rfl rfl ?_;refine qB ?_;refine qL ?_;exact ⟨rfl,⟨rfl,rfl,rfl,rfl,rfl⟩,rfl⟩
theorem end_ok {p q : PSt} (h : endS p = .inr q) (hb : PB p 1000000) : qZ Tryz.prog 97 [.one (.own 0 0)] (psO p) 5 (.one (.lit .nilIface)) (psO q) 5:=by
  unfold endS at h;split at h
  · cases h
  · rename_i r e;cases h;have hb2 : PB r 2000000:=(flushS_B hb e).mono (by decide);unfold closeS;split
    · rename_i h0;exact end_nil e h0 hb
    · rename_i h0;exact end_blk e h0 hb hb2
theorem end_err {p : PSt} {at_ n : Int} (h : endS p = .inl (at_,n)) (hb : PB p 1000000) : qZ Tryz.prog 97 [.one (.own 0 0)] (psO p) 5 (.one (errF at_ n)) [] 5:=by
  have h : xC p = .inl (at_,n):=by
    unfold endS at h;split at h
    · rename_i e;cases h;exact e
    · cases h
  refine qW (rs:=[2]) Tryz.func97 rfl rfl rfl teOk (by decide) rfl ?_;refine qC ?_;refine qB ?_;refine qC ?_;refine qC ?_;refine qB ?_;refine Or.inr (Or.inl (zei [] (zei [0,1,2,3,4] (zei _ (zei _ (zei _ (zei _ (zei _ (zai (flush_err h hb) (zai rfl (zai (zai (zai rfl rfl) (zai (zai rfl rfl) (zai (zai rfl rfl) (zai (zai rfl rfl) (zai (zai rfl rfl) True.intro))))) (zai rfl ?_))))))))))));refine qC ?_;refine qB ?_;refine qK rfl (fun h8=>?_) (fun h8=>?_)
  ·skip
   refine qC ?_;refine qB ?_;refine qL ?_;exact ⟨rfl,trivial,rfl⟩
  ·try simp only [zbq] at h8
   try simp only [zds] at h8
   cases h8
end Q
end Ab
end Go.Proofs.YtbfhpimmlehkcaaGreatDoor
namespace Go.Proofs.YtbfhpimmlehkcaaGreatDoor
open Go.RowKit
namespace Ab
set_option maxRecDepth 100000
namespace Q
theorem begin_c (p : PSt) (l : Lne) (_hb : PB p 1000000) : qZ Tryz.prog 141 [.one (.own 0 0),.agg (toL rLne l)] (psO p) 5 (.tup []) (psO (beginS p l)) 5:=by
  refine qW (rs:=[]) Tryz.func141 rfl rfl rfl teOk (by decide) rfl ?_;refine qC ?_;refine qB ?_;refine qC ?_;refine qB ?_;intro l1_4
  try simp only [zds] at l1_4
  refine zai (fun h=>trivial) ?_;refine zai (fun h=>⟨⟨h,trivial⟩,trivial⟩) ?_;refine zai (fun h=>⟨⟨h,trivial⟩,trivial⟩) ?_;refine zai (fun h=>⟨⟨h,trivial⟩,trivial⟩) ?_;refine zai (fun h=>⟨⟨h,trivial⟩,trivial⟩) ?_;refine zai (fun h=>⟨⟨h,trivial⟩,trivial⟩) ?_;refine zai (fun h=>⟨⟨h,trivial⟩,trivial⟩) ?_;refine zai (fun h=>trivial) ?_;refine zai (fun h=>⟨⟨h,trivial⟩,trivial⟩) ?_;refine zai (fun h=>⟨⟨h,trivial⟩,trivial⟩) ?_;refine zai (fun h=>⟨⟨h,trivial⟩,trivial⟩) ?_;refine zai (fun h=>⟨⟨h,trivial⟩,trivial⟩) ?_;refine zai (fun h=>⟨⟨⟨h,trivial⟩,trivial⟩,by first|exact fun h2=>h2|(intro h2;rw [h,h2];rfl)|(intro h2;cases h2)|(intro h2;simp_all [gq])⟩) ?_;refine zai (by first|(intro h;rw [h];rfl)|(intro h;cases h)) ?_;refine acode_mend 1 6 ?_;refine qB ?_;exact ⟨rfl,rfl,rfl,⟨rfl,rfl,rfl,rfl,rfl⟩,rfl⟩
theorem ahead_none {p : PSt} (l : Lne) (h : p.lns = []) : qZ Tryz.prog 139 [.one (.own 0 0),.agg (toL rLne l),ii .i64 3] (psO p) 5 (.one (errF l.1 2)) [] 5:=by
  refine qW (rs:=[6]) Tryz.func139 rfl rfl rfl teOk (by decide) rfl ?_;refine qC ?_;refine qB ?_;refine qC ?_;refine qC ?_;refine qB ?_;refine qN ?_;refine qC ?_;refine qB ?_;refine qK rfl (fun h8=>?_) (fun h8=>?_)
  ·try simp only [decide_eq_true_eq] at h8
   try simp only [zds] at h8
   refine qC ?_;refine qC ?_;refine qB ?_;intro l3_5
   try simp only [zds] at l3_5
   refine qK rfl (fun h16=>?_) (fun h16=>?_)
   ·try simp only [decide_eq_true_eq] at h16
    try simp only [zds] at h16
    refine qC ?_;refine qB ?_;refine Or.inl ?_;refine zai (rfl) ?_;refine zei _ (zai (fault_c l.1 2) ?_);refine qL ?_;exact ⟨rfl,trivial,rfl⟩
   ·try simp only [decide_eq_false_iff_not] at h16
    try simp only [zds] at h16
    exact absurd (by rw [h];rfl) h16
  ·try simp only [decide_eq_false_iff_not] at h8
   try simp only [zds] at h8
   exact absurd trivial h8
theorem ahead_more {p : PSt} {l : Lne} (h : p.lns ≠ []) (he : l.2.2.2 = true) (hb : PB p 1000000) : qZ Tryz.prog 139 [.one (.own 0 0),.agg (toL rLne l),ii .i64 3] (psO p) 5 (.one (.lit .nilIface)) (psO { p with lns:=p.lns ++ [l.2.2.1] }) 5:=by
  have hl:=hb.lns;refine qW (rs:=[6]) Tryz.func139 rfl rfl rfl teOk (by decide) rfl ?_;refine qC ?_;refine qB ?_;refine qC ?_;refine qC ?_;refine qB ?_;refine qN ?_;refine qC ?_;refine qB ?_;refine qK rfl (fun h8=>?_) (fun h8=>?_)
  ·try simp only [decide_eq_true_eq] at h8
   try simp only [zds] at h8
   refine qC ?_;refine qC ?_;refine qB ?_;intro l3_5
   try simp only [zds] at l3_5
   refine qK rfl (fun h16=>?_) (fun h16=>?_)
   ·try simp only [decide_eq_true_eq] at h16
    try simp only [zds] at h16
    exact absurd (List.eq_nil_of_length_eq_zero (by omega)) h
   ·try simp only [decide_eq_false_iff_not] at h16
    try simp only [zds] at h16
    refine qM ?_;refine qC ?_;refine acode_ord rfl ?_;refine qJ 0 rfl rfl rfl (by kernel_rfl) ?_;refine qJ 1 rfl rfl rfl (by kernel_rfl) ?_;refine qJ 2 rfl rfl rfl (by kernel_rfl) ?_;refine qJ 3 rfl rfl rfl (by kernel_rfl) ?_;refine qJ 4 rfl rfl rfl (by kernel_rfl) ?_;refine qJ 6 rfl rfl rfl (by kernel_rfl) ?_;refine qE [5,7] (by kernel_rfl) rfl ?_;refine zai ?_ ?_
    ·refine qE [7] (by kernel_rfl) rfl ?_;refine qE [8] (by kernel_rfl) rfl ?_;refine qE [9] (by kernel_rfl) rfl ?_;refine zai (by first|exact qQ (by first|omega|(simp only [List.length_cons,List.length_nil];omega)|(simp;omega)) (by decide)|omega|assumption|decide|(simp only [zds];omega)|(simp <;> omega)) ?_;refine qJ 10 rfl rfl rfl (by kernel_rfl) ?_;refine qJ 11 rfl rfl rfl (by kernel_rfl) ?_;refine qJ 12 rfl rfl rfl (by kernel_rfl) ?_;refine qE [13] (by kernel_rfl) rfl ?_;refine qO (by kernel_rfl) ?_;refine qC ?_;refine qC ?_;refine qB ?_;refine qK rfl (fun h35=>?_) (fun h35=>?_)
     ·try simp only [zbq] at h35
      try simp only [zds] at h35
      refine qC ?_;refine qB ?_;refine qL ?_;exact ⟨rfl,⟨rfl,rfl,rfl,rfl,rfl⟩,rfl⟩
     ·try simp only [zbq] at h35
      try simp only [zds] at h35
      exact absurd h35 (by rw [he];decide)
    ·refine qE [5,8] (by kernel_rfl) rfl ?_;refine zai ?_ ?_
     ·refine qE [8] (by kernel_rfl) rfl ?_;refine qE [9] (by kernel_rfl) rfl ?_;refine zai (by first|exact qQ (by first|omega|(simp only [List.length_cons,List.length_nil];omega)|(simp;omega)) (by decide)|omega|assumption|decide|(simp only [zds];omega)|(simp <;> omega)) ?_;refine qJ 10 rfl rfl rfl (by kernel_rfl) ?_;refine qJ 11 rfl rfl rfl (by kernel_rfl) ?_;refine qJ 12 rfl rfl rfl (by kernel_rfl) ?_;refine qE [13] (by kernel_rfl) rfl ?_;refine qO (by kernel_rfl) ?_;refine qC ?_;refine qC ?_;refine qB ?_;refine qK rfl (fun h35=>?_) (fun h35=>?_)
      ·try simp only [zbq] at h35
       try simp only [zds] at h35
       refine qC ?_;refine qB ?_;refine qL ?_;exact ⟨rfl,⟨rfl,rfl,rfl,rfl,rfl⟩,rfl⟩
      ·try simp only [zbq] at h35
       try simp only [zds] at h35
       exact absurd h35 (by rw [he];decide)
     ·refine qE [5] (by kernel_rfl) rfl ?_;refine qE [9] (by kernel_rfl) rfl ?_;refine zai (by first|exact qQ (by first|omega|(simp only [List.length_cons,List.length_nil];omega)|(simp;omega)) (by decide)|omega|assumption|decide|(simp only [zds];omega)|(simp <;> omega)) ?_;refine qJ 10 rfl rfl rfl (by kernel_rfl) ?_;refine qJ 11 rfl rfl rfl (by kernel_rfl) ?_;refine qJ 12 rfl rfl rfl (by kernel_rfl) ?_;refine qE [13] (by kernel_rfl) rfl ?_;refine qO (by kernel_rfl) ?_;refine qC ?_;refine qC ?_;refine qB ?_;refine qK rfl (fun h35=>?_) (fun h35=>?_)
      ·try simp only [zbq] at h35
       try simp only [zds] at h35
       refine qC ?_;refine qB ?_;refine qL ?_;exact ⟨rfl,⟨rfl,rfl,rfl,rfl,rfl⟩,rfl⟩
      ·try simp only [zbq] at h35
       try simp only [zds] at h35
       exact absurd h35 (by rw [he];decide)
  ·try simp only [decide_eq_false_iff_not] at h8
   try simp only [zds] at h8
   exact absurd trivial h8
theorem ahead_last {p q : PSt} {l : Lne} (h : p.lns ≠ []) (he : l.2.2.2 = false) (hb : PB p 900000) (hs : l.2.2.1.size ≤ 90000) (hf : xC { p with lns:=p.lns ++ [l.2.2.1] } = .inr q) : qZ Tryz.prog 139 [.one (.own 0 0),.agg (toL rLne l),ii .i64 3] (psO p) 5 (.one (.lit .nilIface)) (psO q) 5:=by
  have hl:=hb.lns;refine qW (rs:=[6]) Tryz.func139 rfl rfl rfl teOk (by decide) rfl ?_;refine qC ?_;refine qB ?_;refine qC ?_;refine qC ?_;refine qB ?_;refine qN ?_;refine qC ?_;refine qB ?_;refine qK rfl (fun h8=>?_) (fun h8=>?_)
  ·try simp only [decide_eq_true_eq] at h8
   try simp only [zds] at h8
   refine qC ?_;refine qC ?_;refine qB ?_;intro l3_5
   try simp only [zds] at l3_5
   refine qK rfl (fun h16=>?_) (fun h16=>?_)
   ·try simp only [decide_eq_true_eq] at h16
    try simp only [zds] at h16
    exact absurd (List.eq_nil_of_length_eq_zero (by omega)) h
   ·try simp only [decide_eq_false_iff_not] at h16
    try simp only [zds] at h16
    refine qM ?_;refine qC ?_;refine acode_ord rfl ?_;refine qJ 0 rfl rfl rfl (by kernel_rfl) ?_;refine qJ 1 rfl rfl rfl (by kernel_rfl) ?_;refine qJ 2 rfl rfl rfl (by kernel_rfl) ?_;refine qJ 3 rfl rfl rfl (by kernel_rfl) ?_;refine qJ 4 rfl rfl rfl (by kernel_rfl) ?_;refine qJ 6 rfl rfl rfl (by kernel_rfl) ?_;refine qE [5,7] (by kernel_rfl) rfl ?_;refine zai ?_ ?_
    ·refine qE [7] (by kernel_rfl) rfl ?_;refine qE [8] (by kernel_rfl) rfl ?_;refine qE [9] (by kernel_rfl) rfl ?_;refine zai (by first|exact qQ (by first|omega|(simp only [List.length_cons,List.length_nil];omega)|(simp;omega)) (by decide)|omega|assumption|decide|(simp only [zds];omega)|(simp <;> omega)) ?_;refine qJ 10 rfl rfl rfl (by kernel_rfl) ?_;refine qJ 11 rfl rfl rfl (by kernel_rfl) ?_;refine qJ 12 rfl rfl rfl (by kernel_rfl) ?_;refine qE [13] (by kernel_rfl) rfl ?_;refine qO (by kernel_rfl) ?_;refine qC ?_;refine qC ?_;refine qB ?_;refine qK rfl (fun h35=>?_) (fun h35=>?_)
     ·try simp only [zbq] at h35
      try simp only [zds] at h35
      exact absurd h35 (by rw [he];decide)
     ·try simp only [zbq] at h35
      try simp only [zds] at h35
      refine qM ?_;refine qC ?_;refine qB ?_;refine Or.inr (Or.inl (zei [] (zei [0,1,2,3,4] (zei _ (zei _ (zei _ (zei _ (zei _ (zai (flush_ok hf ((more_B _ hb).mono (by omega))) (zai rfl (zai (zai (zai rfl rfl) (zai (zai rfl rfl) (zai (zai rfl rfl) (zai (zai rfl rfl) (zai (zai rfl rfl) True.intro))))) (zai rfl ?_))))))))))));refine qL ?_;exact ⟨rfl,⟨rfl,rfl,rfl,rfl,rfl⟩,rfl⟩
    ·refine qE [5,8] (by kernel_rfl) rfl ?_;refine zai ?_ ?_
     ·refine qE [8] (by kernel_rfl) rfl ?_;refine qE [9] (by kernel_rfl) rfl ?_;refine zai (by first|exact qQ (by first|omega|(simp only [List.length_cons,List.length_nil];omega)|(simp;omega)) (by decide)|omega|assumption|decide|(simp only [zds];omega)|(simp <;> omega)) ?_;refine qJ 10 rfl rfl rfl (by kernel_rfl) ?_;refine qJ 11 rfl rfl rfl (by kernel_rfl) ?_;refine qJ 12 rfl rfl rfl (by kernel_rfl) ?_;refine qE [13] (by kernel_rfl) rfl ?_;refine qO (by kernel_rfl) ?_;refine qC ?_;refine qC ?_;refine qB ?_;refine qK rfl (fun h35=>?_) (fun h35=>?_)
      ·try simp only [zbq] at h35
       try simp only [zds] at h35
       exact absurd h35 (by rw [he];decide)
      ·try simp only [zbq] at h35
       try simp only [zds] at h35
       refine qM ?_;refine qC ?_;refine qB ?_;refine Or.inr (Or.inl (zei [] (zei [0,1,2,3,4] (zei _ (zei _ (zei _ (zei _ (zei _ (zai (flush_ok hf ((more_B _ hb).mono (by omega))) (zai rfl (zai (zai (zai rfl rfl) (zai (zai rfl rfl) (zai (zai rfl rfl) (zai (zai rfl rfl) (zai (zai rfl rfl) True.intro))))) (zai rfl ?_))))))))))));refine qL ?_;exact ⟨rfl,⟨rfl,rfl,rfl,rfl,rfl⟩,rfl⟩
     ·refine qE [5] (by kernel_rfl) rfl ?_;refine qE [9] (by kernel_rfl) rfl ?_;refine zai (by first|exact qQ (by first|omega|(simp only [List.length_cons,List.length_nil];omega)|(simp;omega)) (by decide)|omega|assumption|decide|(simp only [zds];omega)|(simp <;> omega)) ?_;refine qJ 10 rfl rfl rfl (by kernel_rfl) ?_;refine qJ 11 rfl rfl rfl (by kernel_rfl) ?_;refine qJ 12 rfl rfl rfl (by kernel_rfl) ?_;refine qE [13] (by kernel_rfl) rfl ?_;refine qO (by kernel_rfl) ?_;refine qC ?_;refine qC ?_;refine qB ?_;refine qK rfl (fun h35=>?_) (fun h35=>?_)
      ·try simp only [zbq] at h35
       try simp only [zds] at h35
       exact absurd h35 (by rw [he];decide)
      ·try simp only [zbq] at h35
       try simp only [zds] at h35
       refine qM ?_;refine qC ?_;refine qB ?_;refine Or.inr (Or.inl (zei [] (zei [0,1,2,3,4] (zei _ (zei _ (zei _ (zei _ (zei _ (zai (flush_ok hf ((more_B _ hb).mono (by omega))) (zai rfl (zai (zai (zai rfl rfl) (zai (zai rfl rfl) (zai (zai rfl rfl) (zai (zai rfl rfl) (zai (zai rfl rfl) True.intro))))) (zai rfl ?_))))))))))));refine qL ?_;exact ⟨rfl,⟨rfl,rfl,rfl,rfl,rfl⟩,rfl⟩
  ·try simp only [decide_eq_false_iff_not] at h8
   try simp only [zds] at h8
   exact absurd trivial h8
theorem ahead_fail {p : PSt} {l : Lne} {at_ n : Int} (h : p.lns ≠ []) (he : l.2.2.2 = false) (hb : PB p 900000) (hs : l.2.2.1.size ≤ 90000) (hf : xC { p with lns:=p.lns ++ [l.2.2.1] } = .inl (at_,n)) : qZ Tryz.prog 139 [.one (.own 0 0),.agg (toL rLne l),ii .i64 3] (psO p) 5 (.one (errF at_ n)) [] 5:=by
  have hl:=hb.lns;refine qW (rs:=[6]) Tryz.func139 rfl rfl rfl teOk (by decide) rfl ?_;refine qC ?_;refine qB ?_;refine qC ?_;refine qC ?_;refine qB ?_;refine qN ?_;refine qC ?_;refine qB ?_;refine qK rfl (fun h8=>?_) (fun h8=>?_)
  ·try simp only [decide_eq_true_eq] at h8
   try simp only [zds] at h8
   refine qC ?_;refine qC ?_;refine qB ?_;intro l3_5
   try simp only [zds] at l3_5
   refine qK rfl (fun h16=>?_) (fun h16=>?_)
   ·try simp only [decide_eq_true_eq] at h16
    try simp only [zds] at h16
    exact absurd (List.eq_nil_of_length_eq_zero (by omega)) h
   ·try simp only [decide_eq_false_iff_not] at h16
    try simp only [zds] at h16
    refine qM ?_;refine qC ?_;refine acode_ord rfl ?_;refine qJ 0 rfl rfl rfl (by kernel_rfl) ?_;refine qJ 1 rfl rfl rfl (by kernel_rfl) ?_;refine qJ 2 rfl rfl rfl (by kernel_rfl) ?_;refine qJ 3 rfl rfl rfl (by kernel_rfl) ?_;refine qJ 4 rfl rfl rfl (by kernel_rfl) ?_;refine qJ 6 rfl rfl rfl (by kernel_rfl) ?_;refine qE [5,7] (by kernel_rfl) rfl ?_;refine zai ?_ ?_
    ·refine qE [7] (by kernel_rfl) rfl ?_;refine qE [8] (by kernel_rfl) rfl ?_;refine qE [9] (by kernel_rfl) rfl ?_;refine zai (by first|exact qQ (by first|omega|(simp only [List.length_cons,List.length_nil];omega)|(simp;omega)) (by decide)|omega|assumption|decide|(simp only [zds];omega)|(simp <;> omega)) ?_;refine qJ 10 rfl rfl rfl (by kernel_rfl) ?_;refine qJ 11 rfl rfl rfl (by kernel_rfl) ?_;refine qJ 12 rfl rfl rfl (by kernel_rfl) ?_;refine qE [13] (by kernel_rfl) rfl ?_;refine qO (by kernel_rfl) ?_;refine qC ?_;refine qC ?_;refine qB ?_;refine qK rfl (fun h35=>?_) (fun h35=>?_)
     ·try simp only [zbq] at h35
      try simp only [zds] at h35
      exact absurd h35 (by rw [he];decide)
     ·try simp only [zbq] at h35
      try simp only [zds] at h35
      refine qM ?_;refine qC ?_;refine qB ?_;refine Or.inr (Or.inl (zei [] (zei [0,1,2,3,4] (zei _ (zei _ (zei _ (zei _ (zei _ (zai (flush_err hf ((more_B _ hb).mono (by omega))) (zai rfl (zai (zai (zai rfl rfl) (zai (zai rfl rfl) (zai (zai rfl rfl) (zai (zai rfl rfl) (zai (zai rfl rfl) True.intro))))) (zai rfl ?_))))))))))));refine qL ?_;exact ⟨rfl,trivial,rfl⟩
    ·refine qE [5,8] (by kernel_rfl) rfl ?_;refine zai ?_ ?_
     ·refine qE [8] (by kernel_rfl) rfl ?_;refine qE [9] (by kernel_rfl) rfl ?_;refine zai (by first|exact qQ (by first|omega|(simp only [List.length_cons,List.length_nil];omega)|(simp;omega)) (by decide)|omega|assumption|decide|(simp only [zds];omega)|(simp <;> omega)) ?_;refine qJ 10 rfl rfl rfl (by kernel_rfl) ?_;refine qJ 11 rfl rfl rfl (by kernel_rfl) ?_;refine qJ 12 rfl rfl rfl (by kernel_rfl) ?_;refine qE [13] (by kernel_rfl) rfl ?_;refine qO (by kernel_rfl) ?_;refine qC ?_;refine qC ?_;refine qB ?_;refine qK rfl (fun h35=>?_) (fun h35=>?_)
      ·try simp only [zbq] at h35
       try simp only [zds] at h35
       exact absurd h35 (by rw [he];decide)
      ·try simp only [zbq] at h35
       try simp only [zds] at h35
       refine qM ?_;refine qC ?_;refine qB ?_;refine Or.inr (Or.inl (zei [] (zei [0,1,2,3,4] (zei _ (zei _ (zei _ (zei _ (zei _ (zai (flush_err hf ((more_B _ hb).mono (by omega))) (zai rfl (zai (zai (zai rfl rfl) (zai (zai rfl rfl) (zai (zai rfl rfl) (zai (zai rfl rfl) (zai (zai rfl rfl) True.intro))))) (zai rfl ?_))))))))))));refine qL ?_;exact ⟨rfl,trivial,rfl⟩
     ·refine qE [5] (by kernel_rfl) rfl ?_;refine qE [9] (by kernel_rfl) rfl ?_;refine zai (by first|exact qQ (by first|omega|(simp only [List.length_cons,List.length_nil];omega)|(simp;omega)) (by decide)|omega|assumption|decide|(simp only [zds];omega)|(simp <;> omega)) ?_;refine qJ 10 rfl rfl rfl (by kernel_rfl) ?_;refine qJ 11 rfl rfl rfl (by kernel_rfl) ?_;refine qJ 12 rfl rfl rfl (by kernel_rfl) ?_;refine qE [13] (by kernel_rfl) rfl ?_;refine qO (by kernel_rfl) ?_;refine qC ?_;refine qC ?_;refine qB ?_;refine qK rfl (fun h35=>?_) (fun h35=>?_)
      ·try simp only [zbq] at h35
       try simp only [zds] at h35
       exact absurd h35 (by rw [he];decide)
      ·try simp only [zbq] at h35
       try simp only [zds] at h35
       refine qM ?_;refine qC ?_;refine qB ?_;refine Or.inr (Or.inl (zei [] (zei [0,1,2,3,4] (zei _ (zei _ (zei _ (zei _ (zei _ (zai (flush_err hf ((more_B _ hb).mono (by omega))) (zai rfl (zai (zai (zai rfl rfl) (zai (zai rfl rfl) (zai (zai rfl rfl) (zai (zai rfl rfl) (zai (zai rfl rfl) True.intro))))) (zai rfl ?_))))))))))));refine qL ?_;exact ⟨rfl,trivial,rfl⟩
  ·try simp only [decide_eq_false_iff_not] at h8
   try simp only [zds] at h8
   exact absurd trivial h8
theorem ahead_end {p q : PSt} {l : Lne} (hb : PB p 900000) (hf : endS p = .inr q) : qZ Tryz.prog 139 [.one (.own 0 0),.agg (toL rLne l),ii .i64 1] (psO p) 5 (.one (.lit .nilIface)) (psO q) 5:=by
  refine qW (rs:=[6]) Tryz.func139 rfl rfl rfl teOk (by decide) rfl ?_;refine qC ?_;refine qB ?_;refine qC ?_;refine qC ?_;refine qB ?_;refine qN ?_;refine qC ?_;refine qB ?_;refine qK rfl (fun h8=>?_) (fun h8=>?_)
  ·try simp only [decide_eq_true_eq] at h8
   try simp only [zds] at h8
   exact absurd h8 (by decide)
  ·try simp only [decide_eq_false_iff_not] at h8
   try simp only [zds] at h8
   refine qC ?_;refine qB ?_;refine qK rfl (fun h38=>?_) (fun h38=>?_)
   ·try simp only [decide_eq_true_eq] at h38
    try simp only [zds] at h38
    refine qC ?_;refine qB ?_;refine Or.inr (Or.inl (zei [] (zei [0,1,2,3,4] (zei _ (zei _ (zei _ (zei _ (zei _ (zai (end_ok hf (hb.mono (by decide))) (zai rfl (zai (zai (zai rfl rfl) (zai (zai rfl rfl) (zai (zai rfl rfl) (zai (zai rfl rfl) (zai (zai rfl rfl) True.intro))))) (zai rfl ?_))))))))))));refine qL ?_;exact ⟨rfl,⟨rfl,rfl,rfl,rfl,rfl⟩,rfl⟩
   ·try simp only [decide_eq_false_iff_not] at h38
    try simp only [zds] at h38
    exact absurd trivial h38
theorem ahead_endf {p : PSt} {l : Lne} {at_ n : Int} (hb : PB p 900000) (hf : endS p = .inl (at_,n)) : qZ Tryz.prog 139 [.one (.own 0 0),.agg (toL rLne l),ii .i64 1] (psO p) 5 (.one (errF at_ n)) [] 5:=by
  refine qW (rs:=[6]) Tryz.func139 rfl rfl rfl teOk (by decide) rfl ?_;refine qC ?_;refine qB ?_;refine qC ?_;refine qC ?_;refine qB ?_;refine qN ?_;refine qC ?_;refine qB ?_;refine qK rfl (fun h8=>?_) (fun h8=>?_)
  ·try simp only [decide_eq_true_eq] at h8
   try simp only [zds] at h8
   exact absurd h8 (by decide)
  ·try simp only [decide_eq_false_iff_not] at h8
   try simp only [zds] at h8
   refine qC ?_;refine qB ?_;refine qK rfl (fun h38=>?_) (fun h38=>?_)
   ·try simp only [decide_eq_true_eq] at h38
    try simp only [zds] at h38
    refine qC ?_;refine qB ?_;refine Or.inr (Or.inl (zei [] (zei [0,1,2,3,4] (zei _ (zei _ (zei _ (zei _ (zei _ (zai (end_err hf (hb.mono (by decide))) (zai rfl (zai (zai (zai rfl rfl) (zai (zai rfl rfl) (zai (zai rfl rfl) (zai (zai rfl rfl) (zai (zai rfl rfl) True.intro))))) (zai rfl ?_))))))))))));refine qL ?_;exact ⟨rfl,trivial,rfl⟩
   ·try simp only [decide_eq_false_iff_not] at h38
    try simp only [zds] at h38
    exact absurd trivial h38
theorem ahead_flush {p q : PSt} {l : Lne} {k : Int} (h3 : k ≠ 3) (h1 : k ≠ 1) (hb : PB p 900000) (hf : xC p = .inr q) : qZ Tryz.prog 139 [.one (.own 0 0),.agg (toL rLne l),ii .i64 k] (psO p) 5 (.one (.lit .nilIface)) (psO q) 5:=by
  refine qW (rs:=[6]) Tryz.func139 rfl rfl rfl teOk (by decide) rfl ?_;refine qC ?_;refine qB ?_;refine qC ?_;refine qC ?_;refine qB ?_;refine qN ?_;refine qC ?_;refine qB ?_;refine qK rfl (fun h8=>?_) (fun h8=>?_)
  ·try simp only [decide_eq_true_eq] at h8
   try simp only [zds] at h8
   exact absurd h8 h3
  ·try simp only [decide_eq_false_iff_not] at h8
   try simp only [zds] at h8
   refine qC ?_;refine qB ?_;refine qK rfl (fun h38=>?_) (fun h38=>?_)
   ·try simp only [decide_eq_true_eq] at h38
    try simp only [zds] at h38
    exact absurd h38 h1
   ·try simp only [decide_eq_false_iff_not] at h38
    try simp only [zds] at h38
    refine qM ?_;refine qC ?_;refine qB ?_;refine Or.inr (Or.inl (zei [] (zei [0,1,2,3,4] (zei _ (zei _ (zei _ (zei _ (zei _ (zai (flush_ok hf (hb.mono (by decide))) (zai rfl (zai (zai (zai rfl rfl) (zai (zai rfl rfl) (zai (zai rfl rfl) (zai (zai rfl rfl) (zai (zai rfl rfl) True.intro))))) (zai rfl ?_))))))))))));refine qL ?_;exact ⟨rfl,⟨rfl,rfl,rfl,rfl,rfl⟩,rfl⟩
theorem ahead_flushf {p : PSt} {l : Lne} {k at_ n : Int} (h3 : k ≠ 3) (h1 : k ≠ 1) (hb : PB p 900000) (hf : xC p = .inl (at_,n)) : qZ Tryz.prog 139 [.one (.own 0 0),.agg (toL rLne l),ii .i64 k] (psO p) 5 (.one (errF at_ n)) [] 5:=by
  refine qW (rs:=[6]) Tryz.func139 rfl rfl rfl teOk (by decide) rfl ?_;refine qC ?_;refine qB ?_;refine qC ?_;refine qC ?_;refine qB ?_;refine qN ?_;refine qC ?_;refine qB ?_;refine qK rfl (fun h8=>?_) (fun h8=>?_)
  ·try simp only [decide_eq_true_eq] at h8
   try simp only [zds] at h8
   exact absurd h8 h3
  ·try simp only [decide_eq_false_iff_not] at h8
   try simp only [zds] at h8
   refine qC ?_;refine qB ?_;refine qK rfl (fun h38=>?_) (fun h38=>?_)
   ·try simp only [decide_eq_true_eq] at h38
    try simp only [zds] at h38
    exact absurd h38 h1
   ·try simp only [decide_eq_false_iff_not] at h38
    try simp only [zds] at h38
    refine qM ?_;refine qC ?_;refine qB ?_;refine Or.inr (Or.inl (zei [] (zei [0,1,2,3,4] (zei _ (zei _ (zei _ (zei _ (zei _ (zai (flush_err hf (hb.mono (by decide))) (zai rfl (zai (zai (zai rfl rfl) (zai (zai rfl rfl) (zai (zai rfl rfl) (zai (zai rfl rfl) (zai (zai rfl rfl) True.intro))))) (zai rfl ?_))))))))))));refine qL ?_;exact ⟨rfl,trivial,rfl⟩
theorem ahead_ok {p q : PSt} {l : Lne} {k : Int} (h : xG p l k = .inr q) (hb : PB p 900000) (hs : l.2.2.1.size ≤ 90000) : qZ Tryz.prog 139 [.one (.own 0 0),.agg (toL rLne l),ii .i64 k] (psO p) 5 (.one (.lit .nilIface)) (psO q) 5:=by
  unfold xG at h;split at h
  · rename_i e;subst e;split at h
    · cases h
    · rename_i h0;split at h
      · rename_i he;cases h;exact ahead_more h0 he (hb.mono (by decide))
      · rename_i he;exact ahead_last h0 (by simpa using he) hb hs h
  · rename_i h3;split at h
    · rename_i e;subst e;exact ahead_end hb h
    · rename_i h1;exact ahead_flush h3 h1 hb h
theorem ahead_err {p : PSt} {l : Lne} {k at_ n : Int} (h : xG p l k = .inl (at_,n)) (hb : PB p 900000) (hs : l.2.2.1.size ≤ 90000) : qZ Tryz.prog 139 [.one (.own 0 0),.agg (toL rLne l),ii .i64 k] (psO p) 5 (.one (errF at_ n)) [] 5:=by
  unfold xG at h;split at h
  · rename_i e;subst e;split at h
    · rename_i h0;cases h;exact ahead_none l h0
    · rename_i h0;split at h
      · cases h
      · rename_i he;exact ahead_fail h0 (by simpa using he) hb hs h
  · rename_i h3;split at h
    · rename_i e;subst e;exact ahead_endf hb h
    · rename_i h1;exact ahead_flushf h3 h1 hb h
theorem take_err1 {p : PSt} {l : Lne} {at_ n : Int} (h : xG p l (yK (ls l.2.2.1)) = .inl (at_,n)) (hb : PB p 900000) (hs : l.2.2.1.size ≤ 90000) : qZ Tryz.prog 96 [.one (.own 0 0),.agg (toL rLne l)] (psO p) 5 (.one (errF at_ n)) [] 5:=by
  refine qW (rs:=[4]) Tryz.func96 rfl rfl rfl teOk (by decide) rfl ?_;refine qC ?_;refine qB ?_;refine qC ?_;refine qB ?_;refine Or.inl ?_;refine zai (rfl) ?_;refine zei _ (zai (kind_c l.2.2.1 (Nat.le_trans hs (by decide))) ?_);refine qC ?_;refine qC ?_;refine qB ?_;refine Or.inr (Or.inl (zei [] (zei [0,1,2,3,4] (zei _ (zei _ (zei _ (zei _ (zei _ (zai (ahead_err h hb hs) (zai rfl (zai (zai (zai rfl rfl) (zai (zai rfl rfl) (zai (zai rfl rfl) (zai (zai rfl rfl) (zai (zai rfl rfl) True.intro))))) (zai rfl ?_))))))))))));refine qC ?_;refine qB ?_;refine qK rfl (fun h15=>?_) (fun h15=>?_)
  ·skip
   refine qC ?_;refine qB ?_;refine qL ?_;exact ⟨rfl,trivial,rfl⟩
  ·try simp only [zbq] at h15
   try simp only [zds] at h15
   cases h15
theorem take_odd {p q : PSt} {l : Lne} (h : xG p l (yK (ls l.2.2.1)) = .inr q) (hk : yK (ls l.2.2.1) = 5 ∨ l.2.2.2 = false) (hb : PB p 900000) (hs : l.2.2.1.size ≤ 90000) : qZ Tryz.prog 96 [.one (.own 0 0),.agg (toL rLne l)] (psO p) 5 (.one (errF l.1 2)) [] 5:=by
  refine qW (rs:=[4]) Tryz.func96 rfl rfl rfl teOk (by decide) rfl ?_;refine qC ?_;refine qB ?_;refine qC ?_;refine qB ?_;refine Or.inl ?_;refine zai (rfl) ?_;refine zei _ (zai (kind_c l.2.2.1 (Nat.le_trans hs (by decide))) ?_);refine qC ?_;refine qC ?_;refine qB ?_;refine Or.inr (Or.inl (zei [] (zei [0,1,2,3,4] (zei _ (zei _ (zei _ (zei _ (zei _ (zai (ahead_ok h hb hs) (zai rfl (zai (zai (zai rfl rfl) (zai (zai rfl rfl) (zai (zai rfl rfl) (zai (zai rfl rfl) (zai (zai rfl rfl) True.intro))))) (zai rfl ?_))))))))))));refine qC ?_;refine qB ?_;refine qK rfl (fun h15=>?_) (fun h15=>?_)
  ·try simp only [Bool.not_eq_true'] at h15
   try simp only [zds] at h15
   cases h15
  ·try simp only [Bool.not_eq_false'] at h15
   try simp only [zds] at h15
   refine qM ?_;refine qC ?_;refine qN ?_;refine qC ?_;refine qB ?_;refine zai (fun h=>trivial) ?_;refine zai (fun h=>⟨⟨h,trivial⟩,trivial⟩) ?_;refine zai (fun h=>⟨⟨h,trivial⟩,trivial⟩) ?_;refine zai (by first|(intro h;rw [h];rfl)|(intro h;cases h)) ?_;refine qK rfl (fun h17=>?_) (fun h17=>?_)
   ·try simp only [decide_eq_true_eq,Bool.not_eq_true',Bool.or_eq_true] at h17
    try simp only [zds] at h17
    refine qC ?_;refine qB ?_;refine Or.inl ?_;refine zai (rfl) ?_;refine zei _ (zai (fault_c l.1 2) ?_);refine qL ?_;exact ⟨rfl,trivial,rfl⟩
   ·try simp only [decide_eq_false_iff_not,Bool.not_eq_false',Bool.or_eq_false_iff] at h17
    try simp only [zds] at h17
    exact absurd h17 (by rcases hk with hk|hk <;> simp [hk])
theorem take_blank {p q : PSt} {l : Lne} (h : xG p l (yK (ls l.2.2.1)) = .inr q) (hk : yK (ls l.2.2.1) = 1) (he : l.2.2.2 = true) (hb : PB p 900000) (hq : PB q 2000000) (hs : l.2.2.1.size ≤ 90000) : qZ Tryz.prog 96 [.one (.own 0 0),.agg (toL rLne l)] (psO p) 5 (.one (.lit .nilIface)) (psO { q with its:=q.its ++ [(1,l.2.2.1 ++ ⟨#[10]⟩,[])] }) 5:=by
  have hi:=hq.its;refine qW (rs:=[4]) Tryz.func96 rfl rfl rfl teOk (by decide) rfl ?_;refine qC ?_;refine qB ?_;refine qC ?_;refine qB ?_;refine Or.inl ?_;refine zai (rfl) ?_;refine zei _ (zai (kind_c l.2.2.1 (Nat.le_trans hs (by decide))) ?_);refine qC ?_;refine qC ?_;refine qB ?_;refine Or.inr (Or.inl (zei [] (zei [0,1,2,3,4] (zei _ (zei _ (zei _ (zei _ (zei _ (zai (ahead_ok h hb hs) (zai rfl (zai (zai (zai rfl rfl) (zai (zai rfl rfl) (zai (zai rfl rfl) (zai (zai rfl rfl) (zai (zai rfl rfl) True.intro))))) (zai rfl ?_))))))))))));refine qC ?_;refine qB ?_;refine qK rfl (fun h15=>?_) (fun h15=>?_)
  ·try simp only [Bool.not_eq_true'] at h15
   try simp only [zds] at h15
   cases h15
  ·try simp only [Bool.not_eq_false'] at h15
   try simp only [zds] at h15
   refine qM ?_;refine qC ?_;refine qN ?_;refine qC ?_;refine qB ?_;refine zai (fun h=>trivial) ?_;refine zai (fun h=>⟨⟨h,trivial⟩,trivial⟩) ?_;refine zai (fun h=>⟨⟨h,trivial⟩,trivial⟩) ?_;refine zai (by first|(intro h;rw [h];rfl)|(intro h;cases h)) ?_;refine qK rfl (fun h17=>?_) (fun h17=>?_)
   ·try simp only [decide_eq_true_eq,Bool.not_eq_true',Bool.or_eq_true] at h17
    try simp only [zds] at h17
    exact absurd h17 (by simp [hk,he])
   ·try simp only [decide_eq_false_iff_not,Bool.not_eq_false',Bool.or_eq_false_iff] at h17
    try simp only [zds] at h17
    refine qC ?_;refine qB ?_;refine qK rfl (fun h29=>?_) (fun h29=>?_)
    ·try simp only [decide_eq_true_eq] at h29
     try simp only [zds] at h29
     refine qC ?_;refine acode_ord rfl ?_;refine qJ 0 rfl rfl rfl (by kernel_rfl) ?_;refine qJ 1 rfl rfl rfl (by kernel_rfl) ?_;refine qJ 2 rfl rfl rfl (by kernel_rfl) ?_;refine qJ 3 rfl rfl rfl (by kernel_rfl) ?_;refine qJ 5 rfl rfl rfl (by kernel_rfl) ?_;refine qE [4,6] (by kernel_rfl) rfl ?_;refine zai ?_ ?_
     ·refine qE [6] (by kernel_rfl) rfl ?_;refine qJ 7 rfl rfl rfl (by kernel_rfl) ?_;refine zai (by (have hk0 : ByteArray.size { data:=#[10] } = 1:=rfl;first|(unfold maxLen;omega)|(simp only [ByteArray.size_append];omega)|(unfold maxLen;(try simp only [ByteArray.size_append]);omega))) ?_;refine qE [8] (by kernel_rfl) rfl ?_;refine qE [9] (by kernel_rfl) rfl ?_;refine qE [10] (by kernel_rfl) rfl ?_;refine zai (by first|exact qQ (by first|omega|(simp only [List.length_cons,List.length_nil];omega)|(simp;omega)) (by decide)|omega|assumption|decide|(simp only [zds];omega)|(simp <;> omega)) ?_;refine qJ 11 rfl rfl rfl (by kernel_rfl) ?_;refine qJ 12 rfl rfl rfl (by kernel_rfl) ?_;refine qE [13] (by kernel_rfl) rfl ?_;refine qO (by kernel_rfl) ?_;refine qC ?_;refine qB ?_;refine qL ?_;exact ⟨rfl,⟨rfl,rfl,rfl,rfl,rfl⟩,rfl⟩
     ·refine qJ 7 rfl rfl rfl (by kernel_rfl) ?_;refine zai (by (have hk0 : ByteArray.size { data:=#[10] } = 1:=rfl;first|(unfold maxLen;omega)|(simp only [ByteArray.size_append];omega)|(unfold maxLen;(try simp only [ByteArray.size_append]);omega))) ?_;refine qE [4,8] (by kernel_rfl) rfl ?_;refine zai ?_ ?_
      ·refine qE [8] (by kernel_rfl) rfl ?_;refine qE [9] (by kernel_rfl) rfl ?_;refine qE [10] (by kernel_rfl) rfl ?_;refine zai (by first|exact qQ (by first|omega|(simp only [List.length_cons,List.length_nil];omega)|(simp;omega)) (by decide)|omega|assumption|decide|(simp only [zds];omega)|(simp <;> omega)) ?_;refine qJ 11 rfl rfl rfl (by kernel_rfl) ?_;refine qJ 12 rfl rfl rfl (by kernel_rfl) ?_;refine qE [13] (by kernel_rfl) rfl ?_;refine qO (by kernel_rfl) ?_;refine qC ?_;refine qB ?_;refine qL ?_;exact ⟨rfl,⟨rfl,rfl,rfl,rfl,rfl⟩,rfl⟩
      ·refine qE [4,9] (by kernel_rfl) rfl ?_;refine zai ?_ ?_
       ·refine qE [9] (by kernel_rfl) rfl ?_;refine qE [10] (by kernel_rfl) rfl ?_;refine zai (by first|exact qQ (by first|omega|(simp only [List.length_cons,List.length_nil];omega)|(simp;omega)) (by decide)|omega|assumption|decide|(simp only [zds];omega)|(simp <;> omega)) ?_;refine qJ 11 rfl rfl rfl (by kernel_rfl) ?_;refine qJ 12 rfl rfl rfl (by kernel_rfl) ?_;refine qE [13] (by kernel_rfl) rfl ?_;refine qO (by kernel_rfl) ?_;refine qC ?_;refine qB ?_;refine qL ?_;exact ⟨rfl,⟨rfl,rfl,rfl,rfl,rfl⟩,rfl⟩
       ·refine qE [4] (by kernel_rfl) rfl ?_;refine qE [10] (by kernel_rfl) rfl ?_;refine zai (by first|exact qQ (by first|omega|(simp only [List.length_cons,List.length_nil];omega)|(simp;omega)) (by decide)|omega|assumption|decide|(simp only [zds];omega)|(simp <;> omega)) ?_;refine qJ 11 rfl rfl rfl (by kernel_rfl) ?_;refine qJ 12 rfl rfl rfl (by kernel_rfl) ?_;refine qE [13] (by kernel_rfl) rfl ?_;refine qO (by kernel_rfl) ?_;refine qC ?_;refine qB ?_;refine qL ?_;exact ⟨rfl,⟨rfl,rfl,rfl,rfl,rfl⟩,rfl⟩
    ·try simp only [decide_eq_false_iff_not] at h29
     try simp only [zds] at h29
     exact absurd hk h29
theorem take_pair {p q : PSt} {l : Lne} (h : xG p l (yK (ls l.2.2.1)) = .inr q) (hk : yK (ls l.2.2.1) = 4) (he : l.2.2.2 = true) (hb : PB p 900000) (hq : PB q 1000000) (hs : l.2.2.1.size ≤ 90000) : qZ Tryz.prog 96 [.one (.own 0 0),.agg (toL rLne l)] (psO p) 5 (.one (.lit .nilIface)) (psO { beginS q l with blk:=q.blk ++ [l.2.2.1] }) 5:=by
  have hi : (beginS q l).blk.length ≤ 1000000:=hq.blk;refine qW (rs:=[4]) Tryz.func96 rfl rfl rfl teOk (by decide) rfl ?_;refine qC ?_;refine qB ?_;refine qC ?_;refine qB ?_;refine Or.inl ?_;refine zai (rfl) ?_;refine zei _ (zai (kind_c l.2.2.1 (Nat.le_trans hs (by decide))) ?_);refine qC ?_;refine qC ?_;refine qB ?_;refine Or.inr (Or.inl (zei [] (zei [0,1,2,3,4] (zei _ (zei _ (zei _ (zei _ (zei _ (zai (ahead_ok h hb hs) (zai rfl (zai (zai (zai rfl rfl) (zai (zai rfl rfl) (zai (zai rfl rfl) (zai (zai rfl rfl) (zai (zai rfl rfl) True.intro))))) (zai rfl ?_))))))))))));refine qC ?_;refine qB ?_;refine qK rfl (fun h15=>?_) (fun h15=>?_)
  ·try simp only [Bool.not_eq_true'] at h15
   try simp only [zds] at h15
   cases h15
  ·try simp only [Bool.not_eq_false'] at h15
   try simp only [zds] at h15
   refine qM ?_;refine qC ?_;refine qN ?_;refine qC ?_;refine qB ?_;refine zai (fun h=>trivial) ?_;refine zai (fun h=>⟨⟨h,trivial⟩,trivial⟩) ?_;refine zai (fun h=>⟨⟨h,trivial⟩,trivial⟩) ?_;refine zai (by first|(intro h;rw [h];rfl)|(intro h;cases h)) ?_;refine qK rfl (fun h17=>?_) (fun h17=>?_)
   ·try simp only [decide_eq_true_eq,Bool.not_eq_true',Bool.or_eq_true] at h17
    try simp only [zds] at h17
    exact absurd h17 (by simp [hk,he])
   ·try simp only [decide_eq_false_iff_not,Bool.not_eq_false',Bool.or_eq_false_iff] at h17
    try simp only [zds] at h17
    refine qC ?_;refine qB ?_;refine qK rfl (fun h29=>?_) (fun h29=>?_)
    ·try simp only [decide_eq_true_eq] at h29
     try simp only [zds] at h29
     exact absurd h29 (by rw [hk];decide)
    ·try simp only [decide_eq_false_iff_not] at h29
     try simp only [zds] at h29
     refine qC ?_;refine qB ?_;refine qK rfl (fun h45=>?_) (fun h45=>?_)
     ·try simp only [decide_eq_true_eq] at h45
      try simp only [zds] at h45
      refine qB ?_;refine Or.inr (Or.inl (zei [] (zei [0,1,2,3,4] (zei _ (zei _ (zei _ (zei _ (zei _ (zai (begin_c q l hq) (zai rfl (zai (zai (zai rfl rfl) (zai (zai rfl rfl) (zai (zai rfl rfl) (zai (zai rfl rfl) (zai (zai rfl rfl) True.intro))))) (zai rfl ?_))))))))))));refine qC ?_;refine acode_ord rfl ?_;refine qJ 0 rfl rfl rfl (by kernel_rfl) ?_;refine qJ 1 rfl rfl rfl (by kernel_rfl) ?_;refine qJ 2 rfl rfl rfl (by kernel_rfl) ?_;refine qJ 3 rfl rfl rfl (by kernel_rfl) ?_;refine qJ 5 rfl rfl rfl (by kernel_rfl) ?_;refine qE [4,6] (by kernel_rfl) rfl ?_;refine zai ?_ ?_
      ·refine qE [6] (by kernel_rfl) rfl ?_;refine qE [7] (by kernel_rfl) rfl ?_;refine qE [8] (by kernel_rfl) rfl ?_;refine zai (by first|exact qQ (by first|omega|(simp only [List.length_cons,List.length_nil];omega)|(simp;omega)) (by decide)|omega|assumption|decide|(simp only [zds];omega)|(simp <;> omega)) ?_;refine qJ 9 rfl rfl rfl (by kernel_rfl) ?_;refine qJ 10 rfl rfl rfl (by kernel_rfl) ?_;refine qE [11] (by kernel_rfl) rfl ?_;refine qO (by kernel_rfl) ?_;refine qC ?_;refine qB ?_;refine qL ?_;exact ⟨rfl,⟨rfl,rfl,rfl,rfl,rfl⟩,rfl⟩
      ·refine qE [4,7] (by kernel_rfl) rfl ?_;refine zai ?_ ?_
       ·refine qE [7] (by kernel_rfl) rfl ?_;refine qE [8] (by kernel_rfl) rfl ?_;refine zai (by first|exact qQ (by first|omega|(simp only [List.length_cons,List.length_nil];omega)|(simp;omega)) (by decide)|omega|assumption|decide|(simp only [zds];omega)|(simp <;> omega)) ?_;refine qJ 9 rfl rfl rfl (by kernel_rfl) ?_;refine qJ 10 rfl rfl rfl (by kernel_rfl) ?_;refine qE [11] (by kernel_rfl) rfl ?_;refine qO (by kernel_rfl) ?_;refine qC ?_;refine qB ?_;refine qL ?_;exact ⟨rfl,⟨rfl,rfl,rfl,rfl,rfl⟩,rfl⟩
       ·refine qE [4] (by kernel_rfl) rfl ?_;refine qE [8] (by kernel_rfl) rfl ?_;refine zai (by first|exact qQ (by first|omega|(simp only [List.length_cons,List.length_nil];omega)|(simp;omega)) (by decide)|omega|assumption|decide|(simp only [zds];omega)|(simp <;> omega)) ?_;refine qJ 9 rfl rfl rfl (by kernel_rfl) ?_;refine qJ 10 rfl rfl rfl (by kernel_rfl) ?_;refine qE [11] (by kernel_rfl) rfl ?_;refine qO (by kernel_rfl) ?_;refine qC ?_;refine qB ?_;refine qL ?_;exact ⟨rfl,⟨rfl,rfl,rfl,rfl,rfl⟩,rfl⟩
     ·try simp only [decide_eq_false_iff_not] at h45
      try simp only [zds] at h45
      exact absurd hk h45
theorem take_more {p q : PSt} {l : Lne} (h : xG p l (yK (ls l.2.2.1)) = .inr q) (h5 : yK (ls l.2.2.1) ≠ 5) (h1 : yK (ls l.2.2.1) ≠ 1) (h4 : yK (ls l.2.2.1) ≠ 4) (he : l.2.2.2 = true) (hb : PB p 900000) (hq : PB q 1000000) (hs : l.2.2.1.size ≤ 90000) : qZ Tryz.prog 96 [.one (.own 0 0),.agg (toL rLne l)] (psO p) 5 (.one (.lit .nilIface)) (psO { q with blk:=q.blk ++ [l.2.2.1] }) 5:=by
  have hi:=hq.blk;refine qW (rs:=[4]) Tryz.func96 rfl rfl rfl teOk (by decide) rfl ?_;refine qC ?_;refine qB ?_;refine qC ?_;refine qB ?_;refine Or.inl ?_;refine zai (rfl) ?_;refine zei _ (zai (kind_c l.2.2.1 (Nat.le_trans hs (by decide))) ?_);refine qC ?_;refine qC ?_;refine qB ?_;refine Or.inr (Or.inl (zei [] (zei [0,1,2,3,4] (zei _ (zei _ (zei _ (zei _ (zei _ (zai (ahead_ok h hb hs) (zai rfl (zai (zai (zai rfl rfl) (zai (zai rfl rfl) (zai (zai rfl rfl) (zai (zai rfl rfl) (zai (zai rfl rfl) True.intro))))) (zai rfl ?_))))))))))));refine qC ?_;refine qB ?_;refine qK rfl (fun h15=>?_) (fun h15=>?_)
  ·try simp only [Bool.not_eq_true'] at h15
   try simp only [zds] at h15
   cases h15
  ·try simp only [Bool.not_eq_false'] at h15
   try simp only [zds] at h15
   refine qM ?_;refine qC ?_;refine qN ?_;refine qC ?_;refine qB ?_;refine zai (fun h=>trivial) ?_;refine zai (fun h=>⟨⟨h,trivial⟩,trivial⟩) ?_;refine zai (fun h=>⟨⟨h,trivial⟩,trivial⟩) ?_;refine zai (by first|(intro h;rw [h];rfl)|(intro h;cases h)) ?_;refine qK rfl (fun h17=>?_) (fun h17=>?_)
   ·try simp only [decide_eq_true_eq,Bool.not_eq_true',Bool.or_eq_true] at h17
    try simp only [zds] at h17
    exact absurd h17 (by simp [h5,he])
   ·try simp only [decide_eq_false_iff_not,Bool.not_eq_false',Bool.or_eq_false_iff] at h17
    try simp only [zds] at h17
    refine qC ?_;refine qB ?_;refine qK rfl (fun h29=>?_) (fun h29=>?_)
    ·try simp only [decide_eq_true_eq] at h29
     try simp only [zds] at h29
     exact absurd h29 h1
    ·try simp only [decide_eq_false_iff_not] at h29
     try simp only [zds] at h29
     refine qC ?_;refine qB ?_;refine qK rfl (fun h45=>?_) (fun h45=>?_)
     ·try simp only [decide_eq_true_eq] at h45
      try simp only [zds] at h45
      exact absurd h45 h4
     ·try simp only [decide_eq_false_iff_not] at h45
      try simp only [zds] at h45
      refine qM ?_;refine qC ?_;refine acode_ord rfl ?_;refine qJ 0 rfl rfl rfl (by kernel_rfl) ?_;refine qJ 1 rfl rfl rfl (by kernel_rfl) ?_;refine qJ 2 rfl rfl rfl (by kernel_rfl) ?_;refine qJ 3 rfl rfl rfl (by kernel_rfl) ?_;refine qJ 5 rfl rfl rfl (by kernel_rfl) ?_;refine qE [4,6] (by kernel_rfl) rfl ?_;refine zai ?_ ?_
      ·refine qE [6] (by kernel_rfl) rfl ?_;refine qE [7] (by kernel_rfl) rfl ?_;refine qE [8] (by kernel_rfl) rfl ?_;refine zai (by first|exact qQ (by first|omega|(simp only [List.length_cons,List.length_nil];omega)|(simp;omega)) (by decide)|omega|assumption|decide|(simp only [zds];omega)|(simp <;> omega)) ?_;refine qJ 9 rfl rfl rfl (by kernel_rfl) ?_;refine qJ 10 rfl rfl rfl (by kernel_rfl) ?_;refine qE [11] (by kernel_rfl) rfl ?_;refine qO (by kernel_rfl) ?_;refine qC ?_;refine qB ?_;refine qL ?_;exact ⟨rfl,⟨rfl,rfl,rfl,rfl,rfl⟩,rfl⟩
      ·refine qE [4,7] (by kernel_rfl) rfl ?_;refine zai ?_ ?_
       ·refine qE [7] (by kernel_rfl) rfl ?_;refine qE [8] (by kernel_rfl) rfl ?_;refine zai (by first|exact qQ (by first|omega|(simp only [List.length_cons,List.length_nil];omega)|(simp;omega)) (by decide)|omega|assumption|decide|(simp only [zds];omega)|(simp <;> omega)) ?_;refine qJ 9 rfl rfl rfl (by kernel_rfl) ?_;refine qJ 10 rfl rfl rfl (by kernel_rfl) ?_;refine qE [11] (by kernel_rfl) rfl ?_;refine qO (by kernel_rfl) ?_;refine qC ?_;refine qB ?_;refine qL ?_;exact ⟨rfl,⟨rfl,rfl,rfl,rfl,rfl⟩,rfl⟩
       ·refine qE [4] (by kernel_rfl) rfl ?_;refine qE [8] (by kernel_rfl) rfl ?_;refine zai (by first|exact qQ (by first|omega|(simp only [List.length_cons,List.length_nil];omega)|(simp;omega)) (by decide)|omega|assumption|decide|(simp only [zds];omega)|(simp <;> omega)) ?_;refine qJ 9 rfl rfl rfl (by kernel_rfl) ?_;refine qJ 10 rfl rfl rfl (by kernel_rfl) ?_;refine qE [11] (by kernel_rfl) rfl ?_;refine qO (by kernel_rfl) ?_;refine qC ?_;refine qB ?_;refine qL ?_;exact ⟨rfl,⟨rfl,rfl,rfl,rfl,rfl⟩,rfl⟩
theorem take_ok {p q : PSt} {l : Lne} (h : xB p l = .inr q) (hb : PB p 800000) (hs : l.2.2.1.size ≤ 90000) : qZ Tryz.prog 96 [.one (.own 0 0),.agg (toL rLne l)] (psO p) 5 (.one (.lit .nilIface)) (psO q) 5:=by
  unfold xB at h;split at h
  · cases h
  · rename_i r e;have hb' : PB p 900000:=hb.mono (by decide);have hr : PB r 1000000:=(aheadS_B hb e).mono (by omega);unfold lineS at h;split at h
    · cases h
    · rename_i h0;have h5 : yK (ls l.2.2.1) ≠ 5:=fun e=>h0 (.inl e)
      have he : l.2.2.2 = true:=by
        cases e : l.2.2.2
        · exact absurd (.inr e) h0
        · rfl
      split at h
      · rename_i h1;cases h;exact take_blank e h1 he hb' (hr.mono (by decide)) hs
      · rename_i h1;split at h
        · rename_i h4;cases h;exact take_pair e h4 he hb' hr hs
        · rename_i h4;cases h;exact take_more e h5 h1 h4 he hb' hr hs
theorem take_err {p : PSt} {l : Lne} {at_ n : Int} (h : xB p l = .inl (at_,n)) (hb : PB p 800000) (hs : l.2.2.1.size ≤ 90000) : qZ Tryz.prog 96 [.one (.own 0 0),.agg (toL rLne l)] (psO p) 5 (.one (errF at_ n)) [] 5:=by
  unfold xB at h;split at h
  · rename_i e;cases h;exact take_err1 e (hb.mono (by decide)) hs
  · rename_i r e;unfold lineS at h;split at h
    · rename_i h0;cases h;exact take_odd e h0 (hb.mono (by decide)) hs
    · split at h
      · cases h
      · split at h
        · cases h
        · cases h
end Q
end Ab
end Go.Proofs.YtbfhpimmlehkcaaGreatDoor
namespace Go.Proofs.YtbfhpimmlehkcaaGreatDoor
open Go.RowKit
namespace Ab
set_option maxRecDepth 100000
namespace Q
def linesR : Nat → Int → Int → List UInt8 → List Lne
  | 0,_,_,_=>[]
  | f + 1,tot,no,s=>match s with
    | []=>[]
    | s=>(no,tot - s.length,bytes (Lib.cut s [10]).1,(Lib.cut s [10]).2.2) :: linesR f tot (no + 1) (Lib.cut s [10]).2.1
def xA (s : ByteArray) : List Lne:=linesR s.size s.size 0 (ls s)
def itLs (s : ByteArray) : List (List A):=(xA s).map fun l=>[A.agg (toL rLne l)]
theorem cut_less {r : List UInt8} {c : UInt8} (h : r ≠ []) : (Lib.cut r [c]).2.1.length < r.length:=by
  by_cases hm : c ∈ r
  · obtain ⟨a,b,rfl,hn⟩:=List.eq_append_cons_of_mem hm;rw [cut_at hn,List.length_append,List.length_cons];show b.length < _;omega
  · rw [cut_none hm];exact List.length_pos_iff.2 h
theorem le_refl {nx0 : Nat} {tm : Tm} {ob : Obs} {nx : Nat} : Le nx0 tm ob nx tm ob nx:=⟨fun _ _ ρ _ _ hs=>⟨ρ,hs⟩⟩
theorem split_iter (s : ByteArray) (hs : s.size ≤ 1000000) : AIter Tryz.prog 136 [.one (.addr .str s)] (itLs s):=by
  refine aiter_of Tryz.func136 rfl rfl rfl teOk rfl ?_;intro l ι Pr J U n0 hU hab hy;refine yD ?_;refine yN hab hU rfl ?_;refine qB ?_;refine ⟨_,_,_,le_refl,?_⟩;refine yD ?_;refine yN hab hU rfl ?_;refine qB ?_;refine ⟨_,_,_,le_refl,?_⟩;refine acodeY_block ?_;refine acodeY_loop (κ:=Nat × Nat × List UInt8 × ByteArray × Bool) (fun i=>i.2.2.1.length ≤ i.1 ∧ i.2.1 + i.1 ≤ s.size ∧ i.2.1 ≤ (xA s).length ∧ (xA s).drop i.2.1 = linesR i.1 s.size i.2.1 i.2.2.1) (fun i=>i.2.1) (fun i=>[(0,.one (.lit (.func (.yield l) #[] #[]))),(1,.one (.addr .str s)),(3,.one (.own 0 0)),(4,is (bytes i.2.2.1))]) (fun i=>[(0,.box 182 [.lit (.int .i64 i.2.1),.lit (.int .i64 (s.size - i.2.2.1.length)),.lit (.string i.2.2.2.1),.lit (.bool i.2.2.2.2)])]) 1 (fun i=>i.1) (s.size,0,ls s,ByteArray.empty,false) ⟨by rw [show (ls s).length = s.size from (xE s).symm];exact Nat.le_refl _,by simp,Nat.zero_le _,rfl⟩ hab hU (qP ⟨rfl,rfl,rfl,by rw [bytes_ls];rfl⟩ ?_ rfl) rfl ?_
  ·show leO _ [(0,Ob.box 182 [_,C.lit (.int .i64 ((s.size : Int) - ((ls s).length : Nat))),_,_])];rw [show (ls s).length = s.size from (xE s).symm,Int.sub_self];exact rfl
  intro i hi;obtain ⟨f,k,r,t0,e0⟩:=i;obtain ⟨h1,h2,h3,h4⟩:=hi;simp only at h1 h2 h3 h4;have hrs : r.length ≤ s.size:=Nat.le_trans h1 (by omega);refine yD ?_;refine yD ?_;refine yN hab hU rfl ?_;refine qB ?_;refine ⟨_,_,_,le_refl,?_⟩;refine acodeY_cond rfl (fun hc=>?_) (fun hc=>?_)
  ·simp only at hc;have hne : r ≠ []:=fun e=>by
    have e' : bytes r = ⟨#[]⟩:=by rw [e];rfl
    rw [e'] at hc;simp at hc
   obtain ⟨f',hf⟩ : ∃ f',f = f' + 1:=⟨f - 1,by have:=List.length_pos_iff.2 hne;omega⟩;subst hf;have hd : (xA s).drop k = ((k : Int),(s.size : Int) - r.length,bytes (Lib.cut r [10]).1,(Lib.cut r [10]).2.2) :: linesR f' s.size (k + 1 : Nat) (Lib.cut r [10]).2.1:=by
    rw [h4];cases r with
    | nil=>exact absurd rfl hne
    | cons a r=>rfl
   have hk : k < (xA s).length:=by
    rcases Nat.lt_or_ge k (xA s).length with h|h
    ·exact h
    ·rw [List.drop_eq_nil_of_le h] at hd;cases hd
   have hget : (xA s)[k] = ((k : Int),(s.size : Int) - r.length,bytes (Lib.cut r [10]).1,(Lib.cut r [10]).2.2):=by
    rw [List.drop_eq_getElem_cons hk] at hd;exact (List.cons.inj hd).1
   have hdrop : (xA s).drop (k + 1) = linesR f' s.size (k + 1 : Nat) (Lib.cut r [10]).2.1:=by
    rw [List.drop_eq_getElem_cons hk] at hd;exact (List.cons.inj hd).2
   have hkx : k < (itLs s).length:=by unfold itLs;rw [List.length_map];exact hk
   have hx : (itLs s)[k] = [A.agg (toL rLne ((k : Int),(s.size : Int) - r.length,bytes (Lib.cut r [10]).1,(Lib.cut r [10]).2.2))]:=by
    simp only [itLs,List.getElem_map,hget]
   have hcl : (Lib.cut r [10]).2.1.length < r.length:=cut_less hne;have hcc : qT Tryz.prog 137 [is (bytes r),is ⟨#[10]⟩] (.tup [(false,[.lit (.string (bytes (Lib.cut r [10]).1))]),(false,[.lit (.string (bytes (Lib.cut r [10]).2.1))]),(false,[.lit (.bool (Lib.cut r [10]).2.2)])]):=by
    have:=cut_c (bytes r) ⟨#[10]⟩ (by rw [bytes_size];omega);rw [bytes_list] at this;exact this
   generalize Lib.cut r [10] = c at *
   refine acodeY_skip ?_;refine acodeY_block ?_;refine yD ?_;refine yN hab hU rfl ?_;refine qB ?_;refine Or.inl ?_;refine zai (rfl) ?_;refine zei _ (zai hcc ?_);refine ⟨_,_,_,le_refl,?_⟩;refine yD ?_;refine yD ?_;refine acodeY_yield (pre:=[_,_]) (post:=[_]) _ rfl rfl rfl hab hU hy hkx ?_;refine ⟨_,_,_,le_refl,rfl,?_,by rw [hx];rfl,?_⟩
   ·rw [hx];rfl
   ·intro st;refine ⟨_,_,_,le_refl,?_⟩;refine acodeY_cond rfl (fun ht=>?_) (fun ht=>?_)
    ·refine acodeY_ret ?_;rw [Bool.not_not] at ht;subst ht;exact ⟨.inl rfl,fun e=>by cases e⟩
    ·rw [Bool.not_not] at ht;subst ht;refine acodeY_skip ?_;refine yD ?_;refine yN hab hU rfl ?_;refine qB ?_;refine zai (by simp only;omega) ?_;refine ⟨_,_,_,le_refl,?_⟩;refine yN hab hU rfl ?_;refine qB ?_;refine zai (by rw [bytes_size];omega) ?_;refine ⟨_,_,_,?_,⟨(f',k + 1,c.2.1,bytes c.1,c.2.2),⟨by simp only;omega,by simp only;omega,hk,hdrop⟩,Nat.lt_succ_self _,rfl,rfl,rfl,rfl,rfl⟩⟩;refine qP ⟨rfl,rfl,rfl,rfl⟩ ?_ rfl;show leO _ [(0,Ob.box 182 [C.lit (.int .i64 ((k + 1 : Nat) : Int)),C.lit (.int .i64 ((s.size : Int) - (c.2.1.length : Nat))),C.lit (.string (bytes c.1)),C.lit (.bool c.2.2)])];rw [← bytes_size c.2.1];exact rfl
  ·have hr : r = []:=by
    simp only at hc;have : bytes r = ⟨#[]⟩:=by simpa using hc
    have:=congrArg (fun b=>b.data.toList) this
    simpa [bytes_list] using this
   refine acodeY_exit ?_;rw [hr] at h4;have h5 : (xA s).drop k = []:=by rw [h4];cases f <;> rfl
   have h6:=List.drop_eq_nil_iff.1 h5;exact ⟨.inr rfl,fun _=>by simp only [itLs,List.length_map];omega⟩
end Q
end Ab
end Go.Proofs.YtbfhpimmlehkcaaGreatDoor
namespace Go.Proofs.YtbfhpimmlehkcaaGreatDoor
open Go.RowKit
namespace Ab
set_option maxRecDepth 100000
namespace Q
theorem split_c (s : ByteArray) : qT Tryz.prog 95 [is s] (.one (.clo 136 (.addr .str s))):=by
  refine qS (rs:=[2]) Tryz.func95 rfl rfl rfl teOk rfl ?_;refine qC ?_;refine qB ?_;refine qC ?_;refine qB ?_;refine acode_frz [0] ?_;refine qL ?_;rfl
def runS (p : PSt) : List Lne → (Int × Int) ⊕ PSt
  | []=>.inr p
  | l :: r=>match xB p l with
    | .inl e=>.inl e
    | .inr q=>runS q r
def parseS (s : ByteArray) : (Int × Int) ⊕ List Itm:=match runS pst0 (xA s) with
  | .inl e=>.inl e
  | .inr p=>match endS p with
    | .inl e=>.inl e
    | .inr q=>.inr q.its
def resP : (Int × Int) ⊕ List Itm → A
  | .inl e=>.tup [(false,[.sl rItm []]),(false,[errF e.1 e.2])]
  | .inr l=>.tup [(false,[.sl rItm l]),(false,[.lit .nilIface])]
theorem linesR_len : ∀ (f : Nat) (tot no : Int) (s : List UInt8),(linesR f tot no s).length ≤ s.length ∧ ((linesR f tot no s).map (·.2.2.1.size)).sum ≤ s.length
  | 0,_,_,_=>by simp [linesR]
  | f + 1,tot,no,[]=>by simp [linesR]
  | f + 1,tot,no,a :: r=>by
    obtain ⟨h1,h2⟩:=linesR_len f tot (no + 1) (Lib.cut (a :: r) [10]).2.1;have h3 : (Lib.cut (a :: r) [10]).2.1.length < (a :: r).length:=cut_less (by simp);have h4 : (Lib.cut (a :: r) [10]).1.length + (Lib.cut (a :: r) [10]).2.1.length ≤ (a :: r).length:=by
      by_cases hm : (10 : UInt8) ∈ a :: r
      · obtain ⟨x,b,e,hn⟩:=List.eq_append_cons_of_mem hm;rw [e,cut_at hn,List.length_append,List.length_cons];show x.length + b.length ≤ _;omega
      · rw [cut_none hm];exact Nat.le_refl _
    unfold linesR;simp only [List.length_cons,List.map_cons,List.sum_cons,bytes_size] at h3 h4 ⊢;exact ⟨by omega,by omega⟩
theorem linesT_len (s : ByteArray) : (xA s).length ≤ s.size ∧ ((xA s).map (·.2.2.1.size)).sum ≤ s.size:=by
  have:=linesR_len s.size s.size 0 (ls s);rw [show (ls s).length = s.size from (xE s).symm] at this;exact this
def prP (L : List Lne) : Bool → Nat → PSt ⊕ (Int × Int) → Prop
  | false,k,.inl p=>runS pst0 L = runS p (L.drop k) ∧ ∃ B,PB p B ∧ B + 3 * (L.drop k).length + 2 * ((L.drop k).map (·.2.2.1.size)).sum ≤ 600000
  | true,_,.inr e=>runS pst0 L = .inl e
  | _,_,_=>False
def obP : PSt ⊕ (Int × Int) → Obs
  | .inl p=>[(0,.box 103 [.lit (.slice none 0 0)]),(1,.box 26 [.lit .nilIface]),(2,.box 177 [.vec 4,.lit (.int .i64 p.frm),.lit (.bool p.full),.vec 5,.vec 6,.vec 7,.lit (.int .i64 p.recs)]),(3,.box 172 [.own 2 0]),(4,.vec 9 .str p.lns),(5,.vec 110 rItm p.its),(6,.vec 9 .str p.blk),(7,.vec 85 rFld p.flds)]
  | .inr e=>[(0,.box 103 [.lit (.slice none 0 0)]),(1,.box 26 [errF e.1 e.2])]
theorem prP_next {L : List Lne} {k : Nat} {p q : PSt} {l : Lne} (hk : k < L.length) (hl : L[k] = l) (h : prP L false k (.inl p)) (ht : xB p l = .inr q) : prP L false (k + 1) (.inl q):=by
  obtain ⟨h1,B,h2,h3⟩:=h;rw [List.drop_eq_getElem_cons hk,hl] at h1 h3;simp only [runS,ht] at h1;simp only [List.length_cons,List.map_cons,List.sum_cons] at h3;exact ⟨h1,_,takeS_B h2 ht,by omega⟩
theorem prP_stop {L : List Lne} {k : Nat} {p : PSt} {e : Int × Int} {l : Lne} (hk : k < L.length) (hl : L[k] = l) (h : prP L false k (.inl p)) (ht : xB p l = .inl e) : prP L true (k + 1) (.inr e):=by
  obtain ⟨h1,B,h2,h3⟩:=h;rw [List.drop_eq_getElem_cons hk,hl] at h1;simp only [runS,ht] at h1;exact h1
theorem prP_B {L : List Lne} {k : Nat} {p : PSt} {l : Lne} (hk : k < L.length) (hl : L[k] = l) (h : prP L false k (.inl p)) : PB p 800000 ∧ l.2.2.1.size ≤ 300000:=by
  obtain ⟨h1,B,h2,h3⟩:=h;rw [List.drop_eq_getElem_cons hk,hl] at h3;simp only [List.length_cons,List.map_cons,List.sum_cons] at h3;exact ⟨h2.mono (by omega),by omega⟩
theorem prP_end {L : List Lne} {p : PSt} (h : prP L false L.length (.inl p)) : runS pst0 L = .inr p ∧ PB p 1000000:=by
  obtain ⟨h1,B,h2,h3⟩:=h;rw [List.drop_length] at h1;exact ⟨h1,h2.mono (by omega)⟩
theorem linesT_sz {s : ByteArray} {k : Nat} (hk : k < (xA s).length) : ((xA s)[k]).2.2.1.size ≤ s.size:=by
  have h:=(linesT_len s).2;have h1 : (xA s) = (xA s).take k ++ (xA s)[k] :: (xA s).drop (k + 1):=by rw [← List.drop_eq_getElem_cons hk,List.take_append_drop]
  rw [h1,List.map_append,List.sum_append,List.map_cons,List.sum_cons] at h;omega
theorem parse_a (s : ByteArray) (hs : s.size ≤ 60000) : qT Tryz.prog 57 [is s] (resP (parseS s)):=by
  have hlen:=linesT_len s;refine acall_ofc (rs:=[.cell 2 103,.cell 3 26]) Tryz.func57 rfl rfl rfl teOk rfl ?_;refine qC ?_;refine qB ?_;refine qC ?_;refine qC ?_;refine qB ?_;refine qK rfl (fun h10=>?_) (fun h10=>?_)
  ·try simp only [decide_eq_true_eq] at h10
   try simp only [zds] at h10
   omega
  ·try simp only [decide_eq_false_iff_not,Int.not_lt] at h10
   try simp only [zds] at h10
   refine qM ?_;refine qC ?_;refine qB ?_;refine qC ?_;refine qC ?_;refine yG 2 0 9 .str rfl rfl rfl ?_;refine yG 2 3 110 rItm rfl rfl rfl ?_;refine yG 2 4 9 .str rfl rfl rfl ?_;refine yG 2 5 85 rFld rfl rfl rfl ?_;refine qB ?_;refine Or.inl ?_;refine zai (rfl) ?_;refine zei _ (zai (split_c s) ?_);refine qN ?_;refine acode_range (caps:=[.one (.addr .str s)]) (xs:=itLs s) [(2,.one (.own 0 0)),(3,.one (.own 1 0)),(4,.one (.own 3 0)),(15,.one (.clo 136 (.addr .str s)))] 8 (prP (xA s)) obP (fun _=>.ret) (.inl pst0) rfl rfl (split_iter s (by omega)) (qP ⟨rfl,rfl,rfl,rfl⟩ ⟨rfl,rfl,rfl,rfl,rfl,rfl,rfl,rfl⟩ rfl) ⟨rfl,0,⟨Nat.le_refl _,Nat.le_refl _,Nat.le_refl _,Nat.le_refl _,Nat.le_refl _,Nat.le_refl _,Int.le_refl _,Int.le_refl _⟩,by rw [List.drop_zero];omega⟩ (fun k hk=>by simp [itLs]) rfl rfl rfl (fun k i h=>by cases i with|inl p=>rfl|inr e=>exact h.elim) rfl ?_ ?_ ?_
   ·intro k i hk hp;have hk2 : k < (xA s).length:=(by have:=hk;unfold itLs at this;rwa [List.length_map] at this);rw [show (itLs s)[k] = [A.agg (toL rLne ((xA s)[k]))] from by simp [itLs]];obtain ⟨l,hl⟩ : ∃ l,(xA s)[k] = l:=⟨_,rfl⟩;rw [hl];cases i with|inr e=>exact hp.elim|inl p=>?_
    obtain ⟨hB,hz⟩:=prP_B hk2 hl hp;have hz2 : l.2.2.1.size ≤ 90000:=(by have h1:=linesT_sz hk2;rw [hl] at h1;omega);refine qB ?_;refine qN ?_;refine qC ?_;rcases ht : xB p l with ⟨at_,n⟩|q
    ·refine qB ?_;refine Or.inr (Or.inl (zei [] (zei [2,4,5,6,7] (zei _ (zei _ (zei _ (zei _ (zei _ (zai (take_err ht hB hz2) (zai rfl (zai (zai (zai rfl rfl) (zai (zai rfl rfl) (zai (zai rfl rfl) (zai (zai rfl rfl) (zai (zai rfl rfl) True.intro))))) (zai rfl ?_))))))))))));refine qC ?_;refine qB ?_;refine qK rfl (fun h21=>?_) (fun h21=>?_)
     ·skip
      refine qC ?_;refine qB ?_;refine qL ?_;exact ⟨.inr (at_,n),prP_stop hk2 hl hp ht,rfl,qP trivial ⟨rfl,rfl⟩ rfl⟩
     ·try simp only [zbq] at h21
      try simp only [zds] at h21
      cases h21
    ·refine qB ?_;refine Or.inr (Or.inl (zei [] (zei [2,4,5,6,7] (zei _ (zei _ (zei _ (zei _ (zei _ (zai (take_ok ht hB hz2) (zai rfl (zai (zai (zai rfl rfl) (zai (zai rfl rfl) (zai (zai rfl rfl) (zai (zai rfl rfl) (zai (zai rfl rfl) True.intro))))) (zai rfl ?_))))))))))));refine qC ?_;refine qB ?_;refine qK rfl (fun h21=>?_) (fun h21=>?_)
     ·try simp only [Bool.not_eq_true'] at h21
      try simp only [zds] at h21
      cases h21
     ·try simp only [Bool.not_eq_false'] at h21
      try simp only [zds] at h21
      refine qM ?_;exact ⟨.inl q,prP_next hk2 hl hp ht,qP trivial ⟨rfl,rfl,rfl,rfl,rfl,rfl,rfl,rfl⟩ rfl⟩
   ·intro i hp;cases i with|inr e=>exact hp.elim|inl p=>?_
    rw [show (itLs s).length = (xA s).length from by simp [itLs]] at hp;obtain ⟨hr,hB⟩:=prP_end hp;refine qC ?_;refine qC ?_;rcases he : endS p with ⟨at_,n⟩|q
    ·refine qB ?_;refine Or.inr (Or.inl (zei [] (zei [2,4,5,6,7] (zei _ (zei _ (zei _ (zei _ (zei _ (zai (end_err he hB) (zai rfl (zai (zai (zai rfl rfl) (zai (zai rfl rfl) (zai (zai rfl rfl) (zai (zai rfl rfl) (zai (zai rfl rfl) True.intro))))) (zai rfl ?_))))))))))));refine qC ?_;refine qB ?_;refine qK rfl (fun h26=>?_) (fun h26=>?_)
     ·skip
      refine qC ?_;refine qB ?_;refine yG 0 0 110 rItm rfl rfl rfl ?_;refine qL ?_;rw [show parseS s = .inl (at_,n) from by unfold parseS;rw [hr];simp only [he]];exact rfl
     ·try simp only [zbq] at h26
      try simp only [zds] at h26
      cases h26
    ·refine qB ?_;refine Or.inr (Or.inl (zei [] (zei [2,4,5,6,7] (zei _ (zei _ (zei _ (zei _ (zei _ (zai (end_ok he hB) (zai rfl (zai (zai (zai rfl rfl) (zai (zai rfl rfl) (zai (zai rfl rfl) (zai (zai rfl rfl) (zai (zai rfl rfl) True.intro))))) (zai rfl ?_))))))))))));refine qC ?_;refine qB ?_;refine qK rfl (fun h26=>?_) (fun h26=>?_)
     ·try simp only [Bool.not_eq_true'] at h26
      try simp only [zds] at h26
      cases h26
     ·try simp only [Bool.not_eq_false'] at h26
      try simp only [zds] at h26
      refine qM ?_;refine qC ?_;refine qB ?_;refine qL ?_;rw [show parseS s = .inr q.its from by unfold parseS;rw [hr];simp only [he]];exact rfl
   ·intro k i hp;cases i with|inl p=>exact hp.elim|inr e=>?_
    have hp : runS pst0 (xA s) = .inl e:=hp;refine yG 0 0 110 rItm rfl rfl rfl ?_;refine qL ?_;rw [show parseS s = .inl e from by unfold parseS;rw [hp]];exact rfl
end Q
end Ab
end Go.Proofs.YtbfhpimmlehkcaaGreatDoor
namespace Go.Proofs.YtbfhpimmlehkcaaGreatDoor
open Go.RowKit
namespace Ab
set_option maxRecDepth 100000
namespace Q
end Q
end Ab
end Go.Proofs.YtbfhpimmlehkcaaGreatDoor
namespace Go.Proofs.YtbfhpimmlehkcaaGreatDoor
open Go.RowKit
namespace Ab
set_option maxRecDepth 100000
namespace Q
end Q
end Ab
end Go.Proofs.YtbfhpimmlehkcaaGreatDoor
namespace Go.Proofs.YtbfhpimmlehkcaaGreatDoor
open Go.RowKit
namespace Ab
set_option maxRecDepth 100000
namespace Q
def oneL (k : Nat) : List UInt8:=(List.replicate k [65,58,10]).flatten
def manyL (k : Nat) : List UInt8:=(List.replicate k [65,58,10,10]).flatten
def PClean (p : PSt) (r : Int) : Prop:=p.lns = [] ∧ p.blk = [] ∧ p.flds = [] ∧ p.recs = r
theorem linesR_cons (f : Nat) (tot no : Int) (a : UInt8) (r : List UInt8) : linesR (f + 1) tot no (a :: r) = (no,tot - ((a :: r).length : Nat),bytes (Lib.cut (a :: r) [10]).1,(Lib.cut (a :: r) [10]).2.2) :: linesR f tot (no + 1) (Lib.cut (a :: r) [10]).2.1:=rfl
end Q
end Ab
end Go.Proofs.YtbfhpimmlehkcaaGreatDoor
namespace Go.Proofs.YtbfhpimmlehkcaaGreatDoor
open Go.RowKit
namespace Ab
set_option maxRecDepth 100000
namespace Q
def linesB : Nat → List UInt8 → List (ByteArray × Bool)
  | 0,_=>[]
  | f + 1,s=>match s with
    | []=>[]
    | s=>(bytes (Lib.cut s [10]).1,(Lib.cut s [10]).2.2) :: linesB f (Lib.cut s [10]).2.1
def glue : List (ByteArray × Bool) → List UInt8
  | []=>[]
  | l :: r=>ls l.1 ++ ((if l.2 then [10] else []) ++ glue r)
theorem cut_cases {a : UInt8} {s : List UInt8} {c : UInt8} : (∃ x b,a :: s = x ++ c :: b ∧ c ∉ x ∧ Lib.cut (a :: s) [c] = (x,b,true)) ∨ (c ∉ a :: s ∧ Lib.cut (a :: s) [c] = (a :: s,[],false)):=by
  by_cases hm : c ∈ a :: s
  · obtain ⟨x,b,e,hn⟩:=List.eq_append_cons_of_mem hm;exact .inl ⟨x,b,e,hn,by rw [e];exact cut_at hn⟩
  · exact .inr ⟨hm,cut_none hm⟩
structure Rel (I : List Itm) (c : Int) (p q : PSt) : Prop where
  lns : p.lns = q.lns
  full : q.full = true → p.full = true
  its : p.its = I ++ q.its
  blk : p.blk = q.blk
  flds : p.flds = q.flds
  recs : p.recs = q.recs + c
  c0 : 0 ≤ c
  r4 : p.recs ≤ 400
  rf : p.flds ≠ [] → p.recs < 400
  rl : p.lns ≠ [] → p.full = false → p.recs < 400
section
variable {I : List Itm} {c : Int} {p q p1 : PSt}
end
end Q
end Ab
end Go.Proofs.YtbfhpimmlehkcaaGreatDoor
namespace Go.Proofs.YtbfhpimmlehkcaaGreatDoor
open Go.RowKit
namespace Ab
set_option maxRecDepth 100000
namespace Q
def szI (l : List Itm) : Nat:=(l.map (·.2.1.size)).sum
def szB (l : List ByteArray) : Nat:=(l.map (fun b=>b.size + 1)).sum
def rawN (p : PSt) : Nat:=szI p.its + szB p.blk
def Idle (p : PSt) : Prop:=p.lns = [] ∧ p.blk = [] ∧ p.flds = []
def szL (L : List Lne) : Nat:=(L.map (fun l=>l.2.2.1.size + 1)).sum
end Q
end Ab
end Go.Proofs.YtbfhpimmlehkcaaGreatDoor
namespace Go.Proofs.YtbfhpimmlehkcaaGreatDoor
open Go.RowKit
namespace Ab
set_option maxRecDepth 100000
namespace Q
def more (l : Lne) : Bool:=decide (yK (ls l.2.2.1) = 3)
def saidL (l : Lne) (r : List Lne) : List ByteArray:=l.2.2.1 :: (r.takeWhile more).map (·.2.2.1)
def wrongL (bh : Bool) (l : Lne) (r : List Lne) (fields recs : Int) : Int :=
  if yK (ls l.2.2.1) = 5 ∨ (yK (ls l.2.2.1) = 3 ∧ bh = false) ∨ l.2.2.2 = false then 2
  else if yK (ls l.2.2.1) ≠ 4 then 0
  else if (yC ((saidL l r).map ls)).2 ≠ 0 then (yC ((saidL l r).map ls)).2
  else if 40 ≤ fields ∨ (fields = 0 ∧ 400 ≤ recs) then 11
  else 0
structure RSt where
  kind : Int
  raw : ByteArray
  flds : List Fld
  out : List Itm
  recs : Int
def fldOf (L : List ByteArray) : Fld:=(bytes (yC (L.map ls)).1.1,bytes (yC (L.map ls)).1.2)
def stepR (t : RSt) (l : Lne) (r : List Lne) : RSt :=
  if yK (ls l.2.2.1) = 1 then ⟨2,ByteArray.empty,[],(if t.raw = ByteArray.empty then t.out else t.out ++ [(t.kind,t.raw,t.flds)]) ++ [(1,l.2.2.1 ++ ⟨#[10]⟩,[])],t.recs⟩
  else if yK (ls l.2.2.1) = 4 then ⟨3,t.raw ++ l.2.2.1 ++ ⟨#[10]⟩,t.flds ++ [fldOf (saidL l r)],t.out,if t.kind = 2 then t.recs + 1 else t.recs⟩
  else { t with raw:=t.raw ++ l.2.2.1 ++ ⟨#[10]⟩ }
def runR (bh : Bool) (t : RSt) : List Lne → (Int × Int) ⊕ List Itm
  | []=>.inr (if t.raw = ByteArray.empty then t.out else t.out ++ [(t.kind,t.raw,t.flds)])
  | l :: r=>if wrongL bh l r t.flds.length t.recs ≠ 0 then .inl (l.1,wrongL bh l r t.flds.length t.recs)
    else runR (decide (yK (ls l.2.2.1) = 4) || decide (yK (ls l.2.2.1) = 3)) (stepR t l r) r
def rst0 : RSt:=⟨2,ByteArray.empty,[],[],0⟩
def outP (p : PSt) (L : List Lne) : (Int × Int) ⊕ List Itm:=match runS p L with
  | .inl e=>.inl e
  | .inr q=>match endS q with
    | .inl e=>.inl e
    | .inr q=>.inr q.its
theorem outP_cons (p : PSt) (l : Lne) (r : List Lne) : outP p (l :: r) = match xB p l with
    | .inl e=>.inl e
    | .inr q=>outP q r:=by
  unfold outP;simp only [runS];cases xB p l <;> rfl
theorem parse_out (s : ByteArray) : parseS s = outP pst0 (xA s):=rfl
def Ends : List Lne → Prop
  | []=>True
  | l :: r=>(l.2.2.2 = false → r = []) ∧ Ends r
theorem ends_linesR : ∀ (f : Nat) (tot no : Int) (s : List UInt8),Ends (linesR f tot no s)
  | 0,_,_,_=>trivial
  | f + 1,_,_,[]=>trivial
  | f + 1,tot,no,a :: r=>by
    rw [linesR_cons];refine ⟨fun h=>?_,ends_linesR f _ _ _⟩;rcases cut_cases (a:=a) (s:=r) (c:=10) with ⟨x,b,e,_,hc⟩|⟨_,hc⟩
    · rw [hc] at h;cases h
    · rw [hc];cases f <;> rfl
theorem not_more {l : Lne} (h : yK (ls l.2.2.1) ≠ 3) (r : List Lne) : (l :: r).takeWhile more = []:=by
  rw [List.takeWhile_cons_of_neg (by unfold more;simp [h])]
theorem is_more {l : Lne} (h : yK (ls l.2.2.1) = 3) (r : List Lne) : (l :: r).takeWhile more = l :: r.takeWhile more:=by
  rw [List.takeWhile_cons_of_pos (by unfold more;simp [h])]
theorem pend_err : ∀ (r : List Lne) (p : PSt) (at_ n : Int),Ends r → p.lns ≠ [] → (∀ q : PSt,q.lns = p.lns ++ (r.takeWhile more).map (·.2.2.1) → q.full = p.full → q.frm = p.frm → xC q = .inl (at_,n)) → outP p r = .inl (at_,n)
  | [],p,at_,n,_,h0,hf=>by
    have:=hf p (by simp) rfl rfl;unfold outP;simp only [runS,endS,this]
  | l :: r,p,at_,n,hE,h0,hf=>by
    rw [outP_cons]
    by_cases hm : yK (ls l.2.2.1) = 3
    · rw [is_more hm] at hf
      by_cases he : l.2.2.2 = true
      · have ht : xB p l = .inr { p with lns:=p.lns ++ [l.2.2.1],blk:=p.blk ++ [l.2.2.1] }:=by
          unfold xB;simp only [hm];simp [xG,lineS,h0,he]
        rw [ht];exact pend_err r _ at_ n hE.2 (by simp) (fun q h1 h2 h3=>hf q (by rw [h1];simp) h2 h3)
      · obtain rfl:=hE.1 (by simpa using he);have hfp:=hf { p with lns:=p.lns ++ [l.2.2.1] } (by simp) rfl rfl;have ht : xB p l = .inl (at_,n):=by
          unfold xB xG;rw [if_pos hm,if_neg h0,if_neg he,hfp]
        rw [ht]
    · rw [not_more hm] at hf;have hfp:=hf p (by simp) rfl rfl;have ht : xB p l = .inl (at_,n):=by
        unfold xB xG;rw [if_neg hm];unfold endS;rw [hfp];simp
      rw [ht]
def rawC (b : List ByteArray) : ByteArray:=bytes (endL (b.map ls))
theorem rawC_snoc (b : List ByteArray) (x : ByteArray) : rawC (b ++ [x]) = rawC b ++ x ++ ⟨#[10]⟩:=by
  unfold rawC endL;rw [List.map_append,List.flatMap_append,bytes_app,ByteArray.append_assoc]
  congr 1
  simp only [List.map_cons,List.map_nil,List.flatMap_cons,List.flatMap_nil,List.append_nil];rw [bytes_app,bytes_ls];rfl
theorem join_endL (c : UInt8) : ∀ (l : List (List UInt8)),l ≠ [] → Lib.join l [c] ++ [c] = l.flatMap fun s=>s ++ [c]
  | [],h=>absurd rfl h
  | [a],_=>by rw [Lib.join_one];simp
  | a :: b :: r,_=>by
    have:=join_endL c (b :: r) (by simp);rw [join_two,List.flatMap_cons,← this];simp
theorem rawB_C {b : List ByteArray} (h : b ≠ []) : rawB b = rawC b:=by
  unfold rawB rawC endL;rw [show b.map ls = b.map (·.data.toList) from rfl,← join_endL 10 (b.map (·.data.toList)) (by simpa using h),bytes_app];rfl
theorem rawC_nil {b : List ByteArray} : rawC b = ByteArray.empty ↔ b = []:=by
  refine ⟨fun h=>?_,fun h=>by rw [h];rfl⟩;cases b with
  | nil=>rfl
  | cons x r =>
    have:=congrArg ByteArray.size h;unfold rawC endL at this;rw [bytes_size] at this;simp at this
structure Alike (p : PSt) (t : RSt) (bh : Bool) (L : List Lne) : Prop where
  its : t.out = p.its
  raw : t.raw = rawC p.blk
  bh : bh = true ↔ p.lns ≠ []
  flds : t.flds = p.flds ++ (if p.lns = [] then [] else [fldOf (p.lns ++ (L.takeWhile more).map (·.2.2.1))])
  kind : t.kind = if t.flds = [] then 2 else 3
  recs : t.recs = p.recs + (if t.flds = [] then 0 else 1)
  pend : p.lns ≠ [] → p.full = false ∧ (yC ((p.lns ++ (L.takeWhile more).map (·.2.2.1)).map ls)).2 = 0
  blk0 : p.blk = [] → t.flds = []
  r4 : p.recs ≤ 400
  rf : t.flds ≠ [] → p.recs < 400
  f40 : t.flds.length ≤ 40
section
variable {p : PSt} {t : RSt} {bh : Bool} {L : List Lne}
theorem alike_flush (h : Alike p t bh L) (hL : L.takeWhile more = []) : ∃ q,xC p = .inr q ∧ q.lns = [] ∧ q.flds = t.flds ∧ q.its = p.its ∧ q.blk = p.blk ∧ q.recs = p.recs:=by
  by_cases h0 : p.lns = []
  · refine ⟨p,by unfold xC;rw [if_pos h0],h0,?_,rfl,rfl,rfl⟩;rw [h.flds,if_pos h0,List.append_nil]
  · obtain ⟨h1,h2⟩:=h.pend h0;rw [hL,List.map_nil,List.append_nil] at h2;refine ⟨{ p with flds:=p.flds ++ [(bytes (yC (p.lns.map ls)).1.1,bytes (yC (p.lns.map ls)).1.2)],lns:=[] },?_,rfl,?_,rfl,rfl,rfl⟩
    · unfold xC;rw [if_neg h0,if_neg (by rw [h2];simp),if_neg (by rw [h1];simp)]
    · rw [h.flds,if_neg h0,hL];simp [fldOf]
theorem alike_end (h : Alike p t bh L) (hL : L.takeWhile more = []) : ∃ q,endS p = .inr q ∧ q.lns = [] ∧ q.flds = [] ∧ q.blk = [] ∧ q.its = (if t.raw = ByteArray.empty then t.out else t.out ++ [(t.kind,t.raw,t.flds)]) ∧ q.recs = t.recs:=by
  obtain ⟨q,f1,f2,f3,f4,f5,f6⟩:=alike_flush h hL;refine ⟨closeS q,by unfold endS;rw [f1],?_⟩;unfold closeS
  by_cases hb : p.blk = []
  · have hraw : t.raw = ByteArray.empty:=by rw [h.raw];exact rawC_nil.2 hb
    rw [if_pos (f5.trans hb),if_pos hraw];refine ⟨f2,rfl,rfl,by rw [h.its];exact f4,?_⟩;rw [h.recs,if_pos (h.blk0 hb),Int.add_zero];exact f6
  · have hraw : ¬ t.raw = ByteArray.empty:=fun e=>hb (rawC_nil.1 (by rw [← h.raw];exact e))
    rw [if_neg (by rw [f5];exact hb),if_neg hraw];refine ⟨f2,rfl,rfl,?_,?_⟩
    · simp only [h.its,h.kind,h.raw,rawB_C hb,f3,f4,f5]
    · simp only [f3,f6];rw [h.recs]
      by_cases hf : t.flds = []
      · simp [hf]
      · simp [hf]
end
theorem run_eq : ∀ (L : List Lne) (p : PSt) (t : RSt) (bh : Bool),Ends L → Alike p t bh L → outP p L = runR bh t L
  | [],p,t,bh,_,h=>by
    obtain ⟨q,e,_,_,_,h1,_⟩:=alike_end h rfl;unfold outP;simp only [runS,e,h1];rfl
  | l :: r,p,t,bh,hE,h=>by
    rw [outP_cons];unfold runR
    by_cases h3 : yK (ls l.2.2.1) = 3
    · by_cases hb : p.lns = []
      · have hbh : bh = false:=by
          cases bh
          · rfl
          · exact absurd hb (h.bh.1 rfl)
        have hw : wrongL bh l r t.flds.length t.recs = 2:=by
          unfold wrongL;rw [if_pos (.inr (.inl ⟨h3,hbh⟩))]
        have ht : xB p l = .inl (l.1,2):=by
          unfold xB xG;rw [if_pos h3,if_pos hb]
        rw [hw,ht];rfl
      · have hbh : bh = true:=h.bh.2 hb;obtain ⟨h5,h6⟩:=h.pend hb;rw [is_more h3] at h6
        by_cases he : l.2.2.2 = true
        · have hw : wrongL bh l r t.flds.length t.recs = 0:=by
            unfold wrongL;rw [if_neg (by simp [h3,hbh,he]),if_pos (by rw [h3];decide)]
          have ht : xB p l = .inr { p with lns:=p.lns ++ [l.2.2.1],blk:=p.blk ++ [l.2.2.1] }:=by
            unfold xB;simp only [h3];simp [xG,lineS,hb,he]
          rw [hw,ht,if_neg (by decide)];refine run_eq r _ _ _ hE.2 ?_;have hfl:=h.flds;rw [if_neg hb,is_more h3] at hfl;have hne : t.flds ≠ []:=by rw [hfl];simp
          unfold stepR;rw [if_neg (by rw [h3];decide),if_neg (by rw [h3];decide)];exact ⟨h.its,by simp only [h.raw,rawC_snoc],by simp [h3],by simp only;rw [hfl,if_neg (by simp)];simp,h.kind,h.recs,fun _=>⟨h5,by simpa using h6⟩,fun e=>by simp at e,h.r4,h.rf,h.f40⟩
        · have he' : l.2.2.2 = false:=by simpa using he
          obtain rfl:=hE.1 he';have hw : wrongL bh l [] t.flds.length t.recs = 2:=by
            unfold wrongL;rw [if_pos (.inr (.inr he'))]
          have ht : xB p l = .inl (l.1,2):=by
            have : xG p l 3 = .inr { p with flds:=p.flds ++ [(bytes (yC ((p.lns ++ [l.2.2.1]).map ls)).1.1,bytes (yC ((p.lns ++ [l.2.2.1]).map ls)).1.2)],lns:=[] }:=by
              unfold xG;rw [if_pos rfl,if_neg hb,if_neg he];unfold xC;simp only [List.takeWhile_nil,List.map_cons,List.map_nil] at h6;rw [if_neg (by simp),if_neg (by simp only [ne_eq,h6];simp),if_neg (by simp [h5])]
            unfold xB;rw [h3,this];simp [lineS,he']
          rw [hw,ht];rfl
    · have hno:=not_more h3 r
      by_cases h1 : yK (ls l.2.2.1) = 1
      · obtain ⟨q,e,e1,e2,e3,e4,e5⟩:=alike_end h hno
        by_cases he : l.2.2.2 = true
        · have hw : wrongL bh l r t.flds.length t.recs = 0:=by
            unfold wrongL;rw [if_neg (by simp [h1,he]),if_pos (by rw [h1];decide)]
          have ht : xB p l = .inr { q with its:=q.its ++ [(1,l.2.2.1 ++ ⟨#[10]⟩,[])] }:=by
            unfold xB xG;rw [if_neg h3,if_pos h1,e];simp [lineS,h1,he]
          rw [hw,ht,if_neg (by decide)];refine run_eq r _ _ _ hE.2 ?_;unfold stepR;rw [if_pos h1];refine ⟨by simp only [e4],by rw [e3];rfl,by simp [h1,e1],by simp [e1,e2],rfl,by simp [e5],fun h=>absurd e1 h,fun _=>rfl,?_,fun e=>absurd rfl e,by simp⟩;simp only [e5,h.recs];split
          · have:=h.r4;omega
          · rename_i hf;have:=h.rf hf;omega
        · have he' : l.2.2.2 = false:=by simpa using he
          have hw : wrongL bh l r t.flds.length t.recs = 2:=by
            unfold wrongL;rw [if_pos (.inr (.inr he'))]
          have ht : xB p l = .inl (l.1,2):=by
            unfold xB xG;rw [if_neg h3,if_pos h1,e];simp [lineS,he']
          rw [hw,ht];rfl
      · obtain ⟨q,f1,f2,f3,f4,f5,f6⟩:=alike_flush h hno;have hah : xG p l (yK (ls l.2.2.1)) = .inr q:=by
          unfold xG;rw [if_neg h3,if_neg h1,f1]
        by_cases hbad : yK (ls l.2.2.1) = 5 ∨ l.2.2.2 = false
        · have hw : wrongL bh l r t.flds.length t.recs = 2:=by
            unfold wrongL;rw [if_pos (hbad.elim .inl (fun h=>.inr (.inr h)))]
          have ht : xB p l = .inl (l.1,2):=by
            unfold xB lineS;rw [hah];simp only;rw [if_pos hbad]
          rw [hw,ht];rfl
        · have hb5 : yK (ls l.2.2.1) ≠ 5:=fun e=>hbad (.inl e)
          have he : l.2.2.2 = true:=by
            cases e : l.2.2.2
            · exact absurd (.inr e) hbad
            · rfl
          by_cases h4 : yK (ls l.2.2.1) = 4
          · have ht : xB p l = .inr { beginS q l with blk:=q.blk ++ [l.2.2.1] }:=by
              unfold xB lineS;rw [hah];simp only;rw [if_neg hbad,if_neg h1,if_pos h4]
            have hfull : ((decide ((q.flds.length : Int) = 40) || (decide ((q.flds.length : Int) = 0) && decide (q.recs = 400))) = true) ↔ (40 ≤ (t.flds.length : Int) ∨ ((t.flds.length : Int) = 0 ∧ 400 ≤ t.recs)):=by
              have g1:=h.f40;have g2:=h.r4;have g3:=h.recs;rw [f3,f6];simp only [Bool.or_eq_true,Bool.and_eq_true,decide_eq_true_eq]
              constructor
              · rintro (g|⟨g,g'⟩)
                · exact .inl (by omega)
                · refine .inr ⟨g,?_⟩;rw [if_pos (List.eq_nil_of_length_eq_zero (by omega))] at g3;omega
              · rintro (g|⟨g,g'⟩)
                · exact .inl (by omega)
                · refine .inr ⟨g,?_⟩;rw [if_pos (List.eq_nil_of_length_eq_zero (by omega))] at g3;omega
            rw [ht]
            by_cases hu : (yC ((saidL l r).map ls)).2 = 0
            · by_cases hfu : 40 ≤ (t.flds.length : Int) ∨ ((t.flds.length : Int) = 0 ∧ 400 ≤ t.recs)
              · have hw : wrongL bh l r t.flds.length t.recs = 11:=by
                  unfold wrongL;rw [if_neg (by simp [h4,he]),if_neg (by simp [h4]),if_neg (by simp [hu]),if_pos hfu]
                rw [hw,if_pos (by decide)];refine pend_err r _ l.1 11 hE.2 (by simp [beginS]) (fun q' g1 g2 g3=>?_);have g1' : q'.lns = saidL l r:=g1;have g2' : q'.full = true:=g2.trans (hfull.2 hfu);have g3' : q'.frm = l.1:=g3;unfold xC;rw [g1',if_neg (by unfold saidL;simp),if_neg (by simp [hu]),if_pos g2',g3']
              · have hw : wrongL bh l r t.flds.length t.recs = 0:=by
                  unfold wrongL;rw [if_neg (by simp [h4,he]),if_neg (by simp [h4]),if_neg (by simp [hu]),if_neg hfu]
                rw [hw,if_neg (by decide)];refine run_eq r _ _ _ hE.2 ?_;have hff : (decide ((q.flds.length : Int) = 40) || (decide ((q.flds.length : Int) = 0) && decide (q.recs = 400))) = false:=by
                  cases e : (decide ((q.flds.length : Int) = 40) || (decide ((q.flds.length : Int) = 0) && decide (q.recs = 400)))
                  · rfl
                  · exact absurd (hfull.1 e) hfu
                unfold stepR;rw [if_neg h1,if_pos h4];refine ⟨by simp only [beginS,h.its,f4],by simp only [h.raw,rawC_snoc,f5],by simp [h4,beginS],?_,by simp,?_,fun _=>⟨hff,hu⟩,fun e=>by simp at e,?_,fun _=>?_,?_⟩
                · simp only [beginS,f3];rw [if_neg (by simp)];rfl
                · simp only [beginS,f6];have g3:=h.recs;have g4:=h.kind
                  by_cases hf : t.flds = []
                  · rw [if_pos hf] at g3 g4;rw [if_pos g4,if_neg (by simp),g3];omega
                  · rw [if_neg hf] at g3 g4;rw [if_neg (by rw [g4];decide),if_neg (by simp),g3]
                · simp only [beginS,f6];exact h.r4
                · simp only [beginS,f6]
                  by_cases hf : t.flds = []
                  · have g3:=h.recs;rw [if_pos hf] at g3;have : ¬ 400 ≤ t.recs:=fun e=>hfu (.inr ⟨by rw [hf];rfl,e⟩)
                    omega
                  · exact h.rf hf
                · rw [List.length_append,List.length_singleton];have : ¬ 40 ≤ (t.flds.length : Int):=fun e=>hfu (.inl e)
                  omega
            · have hw : wrongL bh l r t.flds.length t.recs = (yC ((saidL l r).map ls)).2:=by
                unfold wrongL;rw [if_neg (by simp [h4,he]),if_neg (by simp [h4]),if_pos hu]
              rw [hw,if_pos hu];refine pend_err r _ l.1 _ hE.2 (by simp [beginS]) (fun q' g1 g2 g3=>?_);have g1' : q'.lns = saidL l r:=g1;have g3' : q'.frm = l.1:=g3;unfold xC;rw [g1',if_neg (by unfold saidL;simp),if_pos hu,g3']
          · have hw : wrongL bh l r t.flds.length t.recs = 0:=by
              unfold wrongL;rw [if_neg (by simp [h3,hb5,he]),if_pos h4]
            have ht : xB p l = .inr { q with blk:=q.blk ++ [l.2.2.1] }:=by
              unfold xB lineS;rw [hah];simp only;rw [if_neg hbad,if_neg h1,if_neg h4]
            rw [hw,ht,if_neg (by decide)];refine run_eq r _ _ _ hE.2 ?_;unfold stepR;rw [if_neg h1,if_neg h4];exact ⟨by simp only [h.its,f4],by simp only [h.raw,rawC_snoc,f5],by simp [h3,h4,f2],by simp [f2,f3],h.kind,by simp only [f6];exact h.recs,fun e=>absurd f2 e,fun e=>by simp at e,by simp only [f6];exact h.r4,by simp only [f6];exact h.rf,h.f40⟩
theorem parse_ref (s : ByteArray) : parseS s = runR false rst0 (xA s):=by
  rw [parse_out];exact run_eq _ _ _ _ (ends_linesR _ _ _ _) ⟨rfl,rfl,by simp [pst0],by simp [rst0,pst0],rfl,rfl,fun e=>absurd rfl e,fun _=>rfl,by decide,fun e=>absurd rfl e,by simp [rst0]⟩
end Q
end Ab
end Go.Proofs.YtbfhpimmlehkcaaGreatDoor
namespace Go.Proofs.YtbfhpimmlehkcaaGreatDoor
open Go.RowKit
namespace Ab
set_option maxRecDepth 100000
namespace Q
def mkL (t : ByteArray) : Lne:=(0,0,t,true)
def Ready (p : PSt) (F : List Fld) : Prop:=∃ q,xC p = .inr q ∧ q.lns = [] ∧ q.flds = F ∧ q.its = p.its ∧ q.recs = p.recs ∧ q.blk = p.blk
def foldsL (a b : List Fld) (n : List UInt8) : List ByteArray:=bytes (35 :: n) :: ((a.flatMap fun f=>lineB f.1 f.2) ++ (⟨#[]⟩ :: ((b.flatMap fun f=>lineB f.1 f.2) ++ [bytes (35 :: n)])))
end Q
end Ab
end Go.Proofs.YtbfhpimmlehkcaaGreatDoor
namespace Go.Proofs.YtbfhpimmlehkcaaGreatDoor
open Go.RowKit
namespace Ab
set_option maxRecDepth 100000
namespace Q
end Q
end Ab
end Go.Proofs.YtbfhpimmlehkcaaGreatDoor
namespace Go.Proofs.YtbfhpimmlehkcaaGreatDoor
open Go.RowKit
namespace Ab
set_option maxRecDepth 100000
namespace Q
end Q
end Ab
end Go.Proofs.YtbfhpimmlehkcaaGreatDoor
namespace Go.Proofs.YtbfhpimmlehkcaaGreatDoor
open Go.RowKit
namespace Ab
set_option maxRecDepth 100000
namespace Q
end Q
end Ab
end Go.Proofs.YtbfhpimmlehkcaaGreatDoor
namespace Go.Proofs.YtbfhpimmlehkcaaGreatDoor
open Go.RowKit
namespace Ab
set_option maxRecDepth 100000
namespace Q
structure SpI (s : ByteArray) (i at_ : Nat) (out : List Lne) : Prop where
  ai : at_ ≤ i
  is : i ≤ s.size
  no : (10 : UInt8) ∉ ((ls s).drop at_).take (i - at_)
  ol : out.length ≤ at_
  eq : ∃ f,((ls s).drop at_).length ≤ f ∧ out ++ linesR f s.size out.length ((ls s).drop at_) = xA s
def rawsL (l : List Itm) : List UInt8:=l.flatMap fun x=>ls x.2.1
theorem getD_get {α : Type} {l : List α} {i : Nat} (h : i < l.length) (d : α) : l[i] = l.getD i d:=by
  rw [List.getD_eq_getElem?_getD,List.getElem?_eq_getElem h];rfl
end Q
end Ab
end Go.Proofs.YtbfhpimmlehkcaaGreatDoor
namespace Go.Proofs.YtbfhpimmlehkcaaGreatDoor
open Go.RowKit
namespace Ab
set_option maxRecDepth 100000
namespace Q
def bhI (k : List Int) (i : Nat) : Bool:=decide (0 < i) && (decide (k.getD (i - 1) 0 = 4) || decide (k.getD (i - 1) 0 = 3))
structure RI (L : List Lne) (k : List Int) (i : Nat) (t : RSt) : Prop where
  il : i ≤ L.length
  eq : runR false rst0 L = runR (bhI k i) t (L.drop i)
  r0 : 0 ≤ t.recs
  ri : t.recs ≤ i
  oi : t.out.length ≤ 2 * i
  fi : t.flds.length ≤ i
  rw_ : t.raw.size ≤ ((L.take i).map (fun l=>l.2.2.1.size + 1)).sum
  rd : t.raw = ByteArray.empty ↔ t.raw.size = 0
def resR : (Int × Int) ⊕ List Itm → A
  | .inl e=>.tup [(false,[.sl rItm []]),(false,[.lit (.int .i64 e.1)]),(false,[.lit (.int .i64 e.2)])]
  | .inr l=>.tup [(false,[.sl rItm l]),(false,[.lit (.int .i64 (-9))]),(false,[.lit (.int .i64 0)])]
end Q
end Ab
end Go.Proofs.YtbfhpimmlehkcaaGreatDoor
namespace Go.Proofs.YtbfhpimmlehkcaaGreatDoor
open Go.RowKit
namespace Ab
set_option maxRecDepth 100000
namespace Q
abbrev rRow : Rd (List Fld):=.sl rFld
def recsL (l : List Itm) : List (List Fld):=(l.filter fun x=>decide (x.1 = 3)).map (·.2.2)
def contP (p : PSt) : List UInt8:=rawsL p.its ++ endL (p.blk.map ls)
theorem items_flds {s : ByteArray} {l : List Itm} (hs : s.size ≤ 60000) (hp : parseS s = .inr l) : l.length ≤ 1000000 ∧ ∀ x ∈ l,x.2.2.length ≤ 1000000:=by
  have h0:=parse_ref s;rw [hp] at h0;obtain ⟨h1,_⟩:=linesT_len s;have key : ∀ (L : List Lne) (t : RSt) (bh : Bool) (l : List Itm),runR bh t L = .inr l → l.length ≤ t.out.length + 1 + 2 * L.length ∧ ∀ (B : Nat),t.flds.length + L.length ≤ B → (∀ x ∈ t.out,x.2.2.length ≤ B) → ∀ x ∈ l,x.2.2.length ≤ B:=by
    intro L
    induction L with
    | nil =>
      intro t bh l h;unfold runR at h;cases h;refine ⟨by split <;> simp,fun B hB ho x hx=>?_⟩;split at hx
      · exact ho x hx
      · rcases List.mem_append.1 hx with hx|hx
        · exact ho x hx
        · rw [List.mem_singleton.1 hx];simpa using hB
    | cons a r ih =>
      intro t bh l h;unfold runR at h;split at h
      · cases h
      · obtain ⟨i1,i2⟩:=ih _ _ _ h;have so : (stepR t a r).out.length ≤ t.out.length + 2:=by
          unfold stepR;split
          · simp only;split <;> simp
          · split <;> simp
        have sf : (stepR t a r).flds.length ≤ t.flds.length + 1:=by
          unfold stepR;split
          · simp
          · split <;> simp
        refine ⟨by rw [List.length_cons];omega,fun B hB ho=>i2 B (by rw [List.length_cons] at hB;omega) (fun x hx=>?_)⟩;have hB2 : t.flds.length ≤ B:=by omega
        unfold stepR at hx;split at hx
        · simp only at hx;rcases List.mem_append.1 hx with hx|hx
          · split at hx
            · exact ho x hx
            · rcases List.mem_append.1 hx with hx|hx
              · exact ho x hx
              · rw [List.mem_singleton.1 hx];exact hB2
          · rw [List.mem_singleton.1 hx];exact Nat.zero_le _
        · split at hx
          · exact ho x hx
          · exact ho x hx
  obtain ⟨k1,k2⟩:=key _ _ _ _ h0.symm;refine ⟨by simp only [rst0,List.length_nil] at k1;omega,k2 1000000 (by simp only [rst0,List.length_nil];omega) (fun x hx=>by cases hx)⟩
end Q
end Ab
end Go.Proofs.YtbfhpimmlehkcaaGreatDoor
namespace Go.Proofs.YtbfhpimmlehkcaaGreatDoor
open Go.RowKit
namespace Ab
set_option maxRecDepth 100000
namespace Q
def apartK (k : Int) : List Itm → List Itm
  | []=>[]
  | x :: r=>if k ≠ 1 ∧ x.1 ≠ 1 then (1,⟨#[10]⟩,[]) :: x :: apartK x.1 r else x :: apartK x.1 r
def apartL (l : List Itm) : List Itm:=apartK 1 l
def altK (k : Int) : List Itm → Prop
  | []=>True
  | x :: r=>(k = 1 ∨ x.1 = 1) ∧ altK x.1 r
def lastK (k : Int) : List Itm → Int
  | []=>k
  | x :: r=>lastK x.1 r
def AltP (p : PSt) : Prop:=altK 1 p.its ∧ lastK 1 p.its = 1
end Q
end Ab
end Go.Proofs.YtbfhpimmlehkcaaGreatDoor
namespace Go.Proofs.YtbfhpimmlehkcaaGreatDoor
open Go.RowKit
namespace Ab
set_option maxRecDepth 100000
namespace Q
structure Fwd (I : List Itm) (c : Int) (p q : PSt) : Prop where
  lns : p.lns = q.lns
  full : q.lns ≠ [] → q.full = false → p.full = false
  its : p.its = I ++ q.its
  blk : p.blk = q.blk
  flds : p.flds = q.flds
  recs : p.recs = q.recs + c
  c0 : 0 ≤ c
section
variable {I : List Itm} {c : Int} {p q q1 : PSt}
end
def Blk (x : Itm) : Prop:=∃ (L : List Lne) (q qe : PSt),(∀ l ∈ L,l.2.2.2 = true ∧ (10 : UInt8) ∉ ls l.2.2.1) ∧ runS pst0 L = .inr q ∧ q.its = [] ∧ q.recs = 0 ∧ endS q = .inr qe ∧ qe.its = [x] ∧ glue (L.map (·.2.2)) = ls x.2.1
def Par (p : PSt) : Prop:=∃ (I : List Itm) (c : Int) (L : List Lne) (q : PSt),Rel I c p q ∧ runS pst0 L = .inr q ∧ q.its = [] ∧ q.recs = 0 ∧ (∀ l ∈ L,l.2.2.2 = true ∧ (10 : UInt8) ∉ ls l.2.2.1) ∧ ∀ x ∈ I,x.1 ≠ 1 → Blk x
theorem filter_at {α : Type} (p : α → Bool) (d : α) : ∀ (l : List α) (j : Nat),j < l.length → p (l.getD j d) = true → ((l.take j).filter p).length < (l.filter p).length ∧ (l.filter p).getD ((l.take j).filter p).length d = l.getD j d
  | [],j,h,_=>by simp at h
  | x :: r,0,h,hp=>by
    have hp : p x = true:=by simpa using hp
    simp [hp]
  | x :: r,j + 1,h,hp=>by
    obtain ⟨h1,h2⟩:=filter_at p d r j (by simpa using h) (by simpa using hp);rw [List.take_succ_cons,List.filter_cons,List.filter_cons]
    by_cases hx : p x = true
    · simp only [hx,if_true,List.length_cons,List.getD_cons_succ];exact ⟨by omega,h2⟩
    · simp only [hx,List.getD_cons_succ];exact ⟨h1,h2⟩
def mix1 (l : List Itm) (k : Nat) : List Itm:=if k < l.length ∧ (l.getD k ((0 : Int),ByteArray.empty,([] : List Fld))).1 ≠ 1 then [l.getD k ((0 : Int),ByteArray.empty,([] : List Fld))] else []
def mixL (turn : Bool) (l m : List Itm) (i : Nat) : List Itm:=(List.range i).flatMap fun k=>mix1 l k ++ if turn then mix1 m k else []
end Q
end Ab
end Go.Proofs.YtbfhpimmlehkcaaGreatDoor
namespace Go.Proofs.YtbfhpimmlehkcaaGreatDoor
open Go.RowKit
namespace Ab
set_option maxRecDepth 100000
namespace Q
abbrev Ent:=Itm × Int
abbrev rEnt : Rd Ent:=.st rItm (.int .i64)
abbrev Lst:=List Ent × Int × Int
abbrev rLst (k : Nat) : Rd Lst:=.st (.slk k rEnt) (.st (.int .i64) (.int .i64))
abbrev Stz:=Int × List Fld
abbrev rStz : Rd Stz:=.st (.int .i64) (.sl rFld)
def isRec (x : Itm) : Bool:=decide (x.1 = 3)
def cntR (l : List Itm) : Nat:=(l.filter isRec).length
def numI (n : Int) : List Itm → List Ent
  | []=>[]
  | x :: r=>match isRec x with
    | true=>(x,n) :: numI (n + 1) r
    | false=>(x,0) :: numI n r
theorem cntR_app (a b : List Itm) : cntR (a ++ b) = cntR a + cntR b:=by simp [cntR]
theorem numI_snoc : ∀ (l : List Itm) (n : Int) (x : Itm),numI n (l ++ [x]) = numI n l ++ [(x,if isRec x then n + cntR l else 0)]
  | [],n,x=>by
    cases h : isRec x <;> simp [numI,h,cntR]
  | y :: r,n,x=>by
    have ih:=fun m=>numI_snoc r m x
    cases h : isRec y with
    | true =>
      have e : n + 1 + (cntR r : Int) = n + (cntR (y :: r) : Int):=by simp [cntR,h];omega
      simp only [List.cons_append,numI,h,ih,e]
    | false =>
      have e : (cntR r : Int) = (cntR (y :: r) : Int):=by simp [cntR,h]
      simp only [List.cons_append,numI,h,ih,e]
theorem numI_len : ∀ (l : List Itm) (n : Int),(numI n l).length = l.length
  | [],_=>rfl
  | x :: r,n=>by
    unfold numI;split <;> simp [numI_len r]
theorem numI_items : ∀ (l : List Itm) (n : Int),(numI n l).map (·.1) = l
  | [],_=>rfl
  | x :: r,n=>by
    unfold numI;split <;> simp [numI_items r]
def ofT (l : List Itm) : Lst:=(numI 1 l,1 + (cntR l : Int),(cntR l : Int))
def hasId (id : Int) (e : Ent) : Bool:=decide (e.2 = id)
def atE (es : List Ent) (id : Int) : Int:=if id < 1 then -1 else ixOf (hasId id) es
theorem at_cases (es : List Ent) (id : Int) : (atE es id = -1 ∧ ∀ e ∈ es,0 < id → e.2 ≠ id) ∨ ∃ i : Nat,i < es.length ∧ atE es id = i ∧ 0 < id ∧ (es.getD i (((0 : Int),ByteArray.empty,([] : List Fld)),(0 : Int))).2 = id ∧ ∀ e ∈ es.take i,e.2 ≠ id:=by
  unfold atE
  by_cases h : id < 1
  · exact .inl ⟨if_pos h,fun e _ h0=>by omega⟩
  · rw [if_neg h];rcases ixOf_cases (hasId id) es (((0 : Int),ByteArray.empty,([] : List Fld)),(0 : Int)) with ⟨h1,h2⟩|⟨i,h1,h2,h3,h4⟩
    · refine .inl ⟨h1,fun e he _=>?_⟩;have:=List.any_eq_false.1 h2 e he
      simpa [hasId] using this
    · refine .inr ⟨i,h1,h2,by omega,by simpa [hasId] using h4,fun e he=>?_⟩;have:=List.any_eq_false.1 h3 e he
      simpa [hasId] using this
def replE (es : List Ent) (i : Nat) (x : Itm) : List Ent:=es.set i (x,(es.getD i (((0 : Int),ByteArray.empty,([] : List Fld)),(0 : Int))).2)
def delE (es : List Ent) (i : Nat) : List Ent:=es.take i ++ es.drop (i + 1)
def insE (es : List Ent) (i : Nat) (e : Ent) : List Ent:=es.take i ++ e :: es.drop i
def live (e : Ent) : Bool:=decide (0 < e.2)
def stzOf (e : Ent) : Stz:=(e.2,e.1.2.2)
def stzL (es : List Ent) : List Stz:=(es.filter live).map stzOf
def itmL (es : List Ent) : List Itm:=es.map (·.1)
def plcL (es : List Ent) (id : Int) : Int:=ixOf (hasId id) (es.filter live)
def rowsL (es : List Ent) : List (List Fld):=(stzL es).map (·.2)
def getL (es : List Ent) (id : Int) : List Fld:=(es.getD (atE es id).toNat (((0 : Int),ByteArray.empty,([] : List Fld)),(0 : Int))).1.2.2
def rawL (es : List Ent) (id : Int) : ByteArray:=(es.getD (atE es id).toNat (((0 : Int),ByteArray.empty,([] : List Fld)),(0 : Int))).1.2.1
def txtL (es : List Ent) : List UInt8:=rawsL (apartL (itmL es))
end Q
end Ab
end Go.Proofs.YtbfhpimmlehkcaaGreatDoor
namespace Go.Proofs.YtbfhpimmlehkcaaGreatDoor
open Go.RowKit
namespace Ab
set_option maxRecDepth 100000
namespace Q
theorem cntR_at {l : List Itm} {i : Nat} (h : i < l.length) : cntR (l.take (i + 1)) = cntR (l.take i) + if isRec (l.getD i ((0 : Int),ByteArray.empty,([] : List Fld))) then 1 else 0:=by
  rw [← yO ((0 : Int),ByteArray.empty,([] : List Fld)) h,cntR_app]
  generalize l.getD i ((0 : Int),ByteArray.empty,([] : List Fld)) = x
  cases hk : isRec x
  · simp [cntR,hk]
  · simp [cntR,hk]
theorem numI_at {l : List Itm} {i : Nat} (h : i < l.length) : numI 1 (l.take (i + 1)) = numI 1 (l.take i) ++ [(l.getD i ((0 : Int),ByteArray.empty,([] : List Fld)),if isRec (l.getD i ((0 : Int),ByteArray.empty,([] : List Fld))) then 1 + (cntR (l.take i) : Int) else 0)]:=by
  rw [← yO ((0 : Int),ByteArray.empty,([] : List Fld)) h];exact numI_snoc (l.take i) 1 _
theorem cntR_le (l : List Itm) : cntR l ≤ l.length:=List.length_filter_le _ _
def lsO (l : Lst) : Obs:=[(0,.box 108 [.vec 1,.lit (.int .i64 l.2.1),.lit (.int .i64 l.2.2)]),(1,.vec 112 rEnt l.1)]
theorem lbox_eq {a b c d : Int} (h1 : a = c) (h2 : b = d) : some (Ob.box 108 [.vec 1,.lit (.int .i64 a),.lit (.int .i64 b)]) = some (Ob.box 108 [.vec 1,.lit (.int .i64 c),.lit (.int .i64 d)]):=by rw [h1,h2]
theorem of_ok (s : ByteArray) (hs : s.size ≤ 60000) {l : List Itm} (hp : parseS s = .inr l) : qZ Tryz.prog 10 [is s] [] 0 (.tup [(false,[.own 0 0]),(false,[.lit .nilIface])]) (lsO (ofT l)) 2:=by
  have hpa:=parse_a s hs;rw [hp] at hpa;obtain ⟨hl1,hl2⟩:=items_flds hs hp;refine qW (rs:=[2,3]) Tryz.func10 rfl rfl rfl teOk (by decide) rfl ?_;refine qC ?_;refine qB ?_;refine qC ?_;refine qB ?_;refine Or.inl ?_;refine zai (rfl) ?_;refine zei _ (zai (hpa) ?_);refine qC ?_;refine qC ?_;refine qB ?_;refine qK rfl (fun h16=>?_) (fun h16=>?_)
  ·try simp only [Bool.not_eq_true'] at h16
   try simp only [zds] at h16
   cases h16
  ·try simp only [Bool.not_eq_false'] at h16
   try simp only [zds] at h16
   refine qM ?_;refine qC ?_;refine qB ?_;refine qC ?_;refine qC ?_;refine yG 0 0 112 rEnt rfl rfl rfl ?_;refine qB ?_;intro l5_1
   try simp only [zds] at l5_1
   refine qN ?_;refine yE (fun (i : Nat)=>i ≤ l.length) (fun (i : Nat)=>[(0,is s),(6,.one (.own 0 0)),(20,.one (.sl rItm l)),(21,ii .i64 l.length),(22,ii .i64 i)]) (fun (i : Nat)=>[(0,.box 108 [.vec 1,.lit (.int .i64 (1 + (cntR (l.take i) : Int))),.lit (.int .i64 (cntR (l.take i)))]),(1,.vec 112 rEnt (numI 1 (l.take i)))]) 2 (fun (i : Nat)=>l.length - i) 0 (Nat.zero_le _) (qP ⟨rfl,rfl,rfl,rfl,rfl⟩ ⟨rfl,rfl⟩ rfl) ?_;intro i hI0;refine qC ?_;refine qB ?_;refine qC ?_;refine qK rfl (fun h23=>?_) (fun h23=>?_)
   ·try simp only [decide_eq_true_eq] at h23
    try simp only [zds] at h23
    have hil : i < l.length:=(by omega);have hsn:=numI_at hil;have hcn:=cntR_at hil;have hcl:=cntR_le (l.take i);rw [List.length_take] at hcl;refine qM ?_;refine qC ?_;refine qN ?_;refine qC ?_;refine qB ?_;refine zai (by first|omega|assumption|decide|(simp only [zds];omega)|(simp <;> omega)) ?_;refine qC ?_;refine qB ?_;refine qC ?_;refine qC ?_;refine qB ?_;refine qK rfl (fun h30=>?_) (fun h30=>?_)
    ·try simp only [decide_eq_true_eq] at h30
     try simp only [Int.toNat_natCast,qH,qI,qG,qF] at h30
     have hk : isRec (l.getD i ((0 : Int),ByteArray.empty,([] : List Fld))) = true:=decide_eq_true h30;rw [hk,if_pos rfl] at hsn hcn;refine qC ?_;refine qB ?_;refine qC ?_;refine qB ?_;refine zai (by first|omega|assumption|decide|(simp only [zds];omega)|(simp <;> omega)) ?_;refine qB ?_;refine zai (by first|omega|assumption|decide|(simp only [zds];omega)|(simp <;> omega)) ?_;refine acode_ord rfl ?_;refine qJ 0 rfl rfl rfl (by kernel_rfl) ?_;refine qJ 1 rfl rfl rfl (by kernel_rfl) ?_;refine qJ 2 rfl rfl rfl (by kernel_rfl) ?_;refine qJ 3 rfl rfl rfl (by kernel_rfl) ?_;refine qE [4,5] (by kernel_rfl) rfl ?_;refine zai ?_ ?_
     ·refine qE [5] (by kernel_rfl) rfl ?_;refine qE [6] (by kernel_rfl) rfl ?_;refine qE [7] (by kernel_rfl) rfl ?_;refine zai (by exact qQ (show (numI 1 (l.take i)).length + 1 ≤ 1000000000 by rw [numI_len,List.length_take];omega) (by decide)) ?_;refine qJ 8 rfl rfl rfl (by kernel_rfl) ?_;refine qJ 9 rfl rfl rfl (by kernel_rfl) ?_;refine qE [10] (by kernel_rfl) rfl ?_;refine qO (by kernel_rfl) ?_;refine qB ?_;refine zai (by first|omega|assumption|decide|(simp only [zds];omega)|(simp <;> omega)) ?_;exact ⟨i + 1,by omega,by first|omega|(simp <;> omega),qP ⟨rfl,rfl,rfl,rfl,rfl⟩ ⟨(lbox_eq (by omega) (by omega)),(qY (by rw [hsn];exact rfl))⟩ rfl⟩
     ·refine qE [4,6] (by kernel_rfl) rfl ?_;refine zai ?_ ?_
      ·refine qE [6] (by kernel_rfl) rfl ?_;refine qE [7] (by kernel_rfl) rfl ?_;refine zai (by exact qQ (show (numI 1 (l.take i)).length + 1 ≤ 1000000000 by rw [numI_len,List.length_take];omega) (by decide)) ?_;refine qJ 8 rfl rfl rfl (by kernel_rfl) ?_;refine qJ 9 rfl rfl rfl (by kernel_rfl) ?_;refine qE [10] (by kernel_rfl) rfl ?_;refine qO (by kernel_rfl) ?_;refine qB ?_;refine zai (by first|omega|assumption|decide|(simp only [zds];omega)|(simp <;> omega)) ?_;exact ⟨i + 1,by omega,by first|omega|(simp <;> omega),qP ⟨rfl,rfl,rfl,rfl,rfl⟩ ⟨(lbox_eq (by omega) (by omega)),(qY (by rw [hsn];exact rfl))⟩ rfl⟩
      ·refine qE [4] (by kernel_rfl) rfl ?_;refine qE [7] (by kernel_rfl) rfl ?_;refine zai (by exact qQ (show (numI 1 (l.take i)).length + 1 ≤ 1000000000 by rw [numI_len,List.length_take];omega) (by decide)) ?_;refine qJ 8 rfl rfl rfl (by kernel_rfl) ?_;refine qJ 9 rfl rfl rfl (by kernel_rfl) ?_;refine qE [10] (by kernel_rfl) rfl ?_;refine qO (by kernel_rfl) ?_;refine qB ?_;refine zai (by first|omega|assumption|decide|(simp only [zds];omega)|(simp <;> omega)) ?_;exact ⟨i + 1,by omega,by first|omega|(simp <;> omega),qP ⟨rfl,rfl,rfl,rfl,rfl⟩ ⟨(lbox_eq (by omega) (by omega)),(qY (by rw [hsn];exact rfl))⟩ rfl⟩
    ·try simp only [decide_eq_false_iff_not] at h30
     try simp only [Int.toNat_natCast,qH,qI,qG,qF] at h30
     have hk : isRec (l.getD i ((0 : Int),ByteArray.empty,([] : List Fld))) = false:=decide_eq_false h30;rw [hk,if_neg Bool.false_ne_true] at hsn hcn;refine qM ?_;refine acode_ord rfl ?_;refine qJ 0 rfl rfl rfl (by kernel_rfl) ?_;refine qJ 1 rfl rfl rfl (by kernel_rfl) ?_;refine qJ 2 rfl rfl rfl (by kernel_rfl) ?_;refine qJ 3 rfl rfl rfl (by kernel_rfl) ?_;refine qE [4,5] (by kernel_rfl) rfl ?_;refine zai ?_ ?_
     ·refine qE [5] (by kernel_rfl) rfl ?_;refine qE [6] (by kernel_rfl) rfl ?_;refine qE [7] (by kernel_rfl) rfl ?_;refine zai (by exact qQ (show (numI 1 (l.take i)).length + 1 ≤ 1000000000 by rw [numI_len,List.length_take];omega) (by decide)) ?_;refine qJ 8 rfl rfl rfl (by kernel_rfl) ?_;refine qJ 9 rfl rfl rfl (by kernel_rfl) ?_;refine qE [10] (by kernel_rfl) rfl ?_;refine qO (by kernel_rfl) ?_;refine qB ?_;refine zai (by first|omega|assumption|decide|(simp only [zds];omega)|(simp <;> omega)) ?_;exact ⟨i + 1,by omega,by first|omega|(simp <;> omega),qP ⟨rfl,rfl,rfl,rfl,rfl⟩ ⟨(lbox_eq (by omega) (by omega)),(qY (by rw [hsn];exact rfl))⟩ rfl⟩
     ·refine qE [4,6] (by kernel_rfl) rfl ?_;refine zai ?_ ?_
      ·refine qE [6] (by kernel_rfl) rfl ?_;refine qE [7] (by kernel_rfl) rfl ?_;refine zai (by exact qQ (show (numI 1 (l.take i)).length + 1 ≤ 1000000000 by rw [numI_len,List.length_take];omega) (by decide)) ?_;refine qJ 8 rfl rfl rfl (by kernel_rfl) ?_;refine qJ 9 rfl rfl rfl (by kernel_rfl) ?_;refine qE [10] (by kernel_rfl) rfl ?_;refine qO (by kernel_rfl) ?_;refine qB ?_;refine zai (by first|omega|assumption|decide|(simp only [zds];omega)|(simp <;> omega)) ?_;exact ⟨i + 1,by omega,by first|omega|(simp <;> omega),qP ⟨rfl,rfl,rfl,rfl,rfl⟩ ⟨(lbox_eq (by omega) (by omega)),(qY (by rw [hsn];exact rfl))⟩ rfl⟩
      ·refine qE [4] (by kernel_rfl) rfl ?_;refine qE [7] (by kernel_rfl) rfl ?_;refine zai (by exact qQ (show (numI 1 (l.take i)).length + 1 ≤ 1000000000 by rw [numI_len,List.length_take];omega) (by decide)) ?_;refine qJ 8 rfl rfl rfl (by kernel_rfl) ?_;refine qJ 9 rfl rfl rfl (by kernel_rfl) ?_;refine qE [10] (by kernel_rfl) rfl ?_;refine qO (by kernel_rfl) ?_;refine qB ?_;refine zai (by first|omega|assumption|decide|(simp only [zds];omega)|(simp <;> omega)) ?_;exact ⟨i + 1,by omega,by first|omega|(simp <;> omega),qP ⟨rfl,rfl,rfl,rfl,rfl⟩ ⟨(lbox_eq (by omega) (by omega)),(qY (by rw [hsn];exact rfl))⟩ rfl⟩
   ·try simp only [decide_eq_false_iff_not,Int.not_lt] at h23
    try simp only [zds] at h23
    refine yI ?_;refine qC ?_;refine qB ?_;refine qL ?_;rw [List.take_of_length_le (by omega)];exact ⟨rfl,⟨rfl,rfl⟩,rfl⟩
theorem of_err (s : ByteArray) (hs : s.size ≤ 60000) {at_ n : Int} (hp : parseS s = .inl (at_,n)) : qT Tryz.prog 10 [is s] (.tup [(false,[.lit (.pointer none)]),(false,[errF at_ n])]):=by
  have hpa:=parse_a s hs;rw [hp] at hpa;refine qS (rs:=[2,3]) Tryz.func10 rfl rfl rfl teOk rfl ?_;refine qC ?_;refine qB ?_;refine qC ?_;refine qB ?_;refine Or.inl ?_;refine zai (rfl) ?_;refine zei _ (zai (hpa) ?_);refine qC ?_;refine qC ?_;refine qB ?_;refine qK rfl (fun h16=>?_) (fun h16=>?_)
  ·skip
   refine qC ?_;refine qB ?_;refine qL ?_;rfl
  ·try simp only [zbq] at h16
   try simp only [zds] at h16
   cases h16
end Q
end Ab
end Go.Proofs.YtbfhpimmlehkcaaGreatDoor
