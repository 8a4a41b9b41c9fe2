/-
  The texts of this proof, joined: abstract values, the library, the functions of the program and what they compute (part 4). No condition.
-/
import Derived.Test.YtlbainbjlibfiaaGreatDoorRows
import Derived.Lib.Strings
import Derived.Lib.Slices
import Derived.Lib.Walk
import Derived.Lib.Builder
import Derived.Lib.AppendStr
import Derived.Lib.OthersKept
import Derived.WalkKit
import Derived.Laws.Externs
import Derived.Laws.IdiomCopy
import Derived.Lib.UnsafeStr
import Derived.Shelf.RegionOpenPlain
import Derived.Shelf.Strings.Builder1
import Derived.Shelf.Strings.Builder2
import Derived.Shelf.Strings.OnBuilder
import Derived.Shelf.Strings.Trim
import Derived.Shelf.Small.Utf8
import Derived.Shelf.Small.Strs
import Derived.Shelf.Strings.BuilderF
import Derived.Shelf.Strings.BuilderK
import Derived.Shelf.Utf8.RuneCount
import Derived.Shelf.Strings.Builder2Cap
import Derived.Shelf.Strings.Search1
import Derived.Shelf.Strings.Search2
import Derived.Shelf.Strings.Search3
import Derived.Shelf.Strings.Cut
import Derived.Shelf.Strings.Count
import Derived.Shelf.LaysM
import Derived.Shelf.Strings.Shaped
import Derived.Shelf.Strings.Prefix
import Derived.Shelf.Strings.Split
import Derived.Shelf.Strings.SplitShaped
import Derived.Shelf.Unicode.Decode
import Derived.Shelf.Strings.Runes
import Derived.Shelf.Strings.RuneCount
import Derived.Shelf.Strings.AsciiSet
import Derived.Shelf.Strings.Explode
import Derived.Shelf.Unicode.DecodeSlow
import Derived.Shelf.Unicode.DecodeAny
import Derived.Shelf.Unicode.DecodeLast
import Derived.Shelf.Strings.BuilderCap
import Derived.Test.YtlbainbjlibfiaaGreatDoorProg
import Derived.Lib.SplitLaws
import Derived.Shelf.Strings.SlTrimAscii
import Derived.Lib.Join
import Derived.Lib.SlTrimSet
import Derived.Test.YtlbainbjlibfiaaGreatDoorK1
import Derived.Test.YtlbainbjlibfiaaGreatDoorK2
import Derived.Test.YtlbainbjlibfiaaGreatDoorK3
namespace Go.Proofs.YtlbainbjlibfiaaGreatDoor
open Go.RowKit
namespace Ab
def ty3 : TyI:=⟨.int .i64,1,8,[.int .i64 0],some ⟨_,(.int .i64)⟩,true⟩
theorem tyOk3 : TyOk Tryz.prog 3 ty3:=yC (by kernel_rfl) Tryz.underlying3 rfl (by decide) rfl (fun _ _ h=>by cases h;rfl) (fun _=>by kernel_rfl)
def ty9 : TyI:=⟨.str,1,16,[.string ⟨#[]⟩],some ⟨_,.str⟩,true⟩
theorem tyOk9 : TyOk Tryz.prog 9 ty9:=yC (by kernel_rfl) Tryz.underlying9 rfl (by decide) rfl (fun _ _ h=>by cases h;rfl) (fun _=>by kernel_rfl)
def ty49 : TyI:=⟨.struct [(0,47),(1,3)],2,32,[.slice none 0 0,.int .i64 0],some ⟨_,(.st (.sl (.st (.st (.int .i64) (.st .str (.sl (.st .str .str)))) (.int .i64))) (.int .i64))⟩,false⟩
theorem tyOk49 : TyOk Tryz.prog 49 ty49:=yC (by kernel_rfl) ⟨by kernel_rfl,by kernel_rfl,by kernel_rfl,by kernel_rfl,by kernel_rfl⟩ rfl (by decide) rfl (fun _ _ h=>by cases h;rfl) (fun h=>by cases h)
def ty40 : TyI:=⟨.slice 73,1,24,[.slice none 0 0],some ⟨_,(.sl (.st .str .str))⟩,false⟩
theorem tyOk40 : TyOk Tryz.prog 40 ty40:=yC (by kernel_rfl) Tryz.underlying40 rfl (by decide) rfl (fun _ _ h=>by cases h;rfl) (fun h=>by cases h)
def ty38 : TyI:=⟨.slice 42,1,24,[.slice none 0 0],some ⟨_,(.sl (.st (.int .i64) (.sl (.st .str .str))))⟩,false⟩
theorem tyOk38 : TyOk Tryz.prog 38 ty38:=yC (by kernel_rfl) Tryz.underlying38 rfl (by decide) rfl (fun _ _ h=>by cases h;rfl) (fun h=>by cases h)
def ty155 : TyI:=⟨.slice 9,1,24,[.slice none 0 0],some ⟨_,(.sl .str)⟩,false⟩
theorem tyOk155 : TyOk Tryz.prog 155 ty155:=yC (by kernel_rfl) Tryz.underlying155 rfl (by decide) rfl (fun _ _ h=>by cases h;rfl) (fun h=>by cases h)
def ty63 : TyI:=⟨.struct [(0,3),(1,9),(2,40)],3,48,[.int .i64 0,.string ⟨#[]⟩,.slice none 0 0],some ⟨_,(.st (.int .i64) (.st .str (.sl (.st .str .str))))⟩,false⟩
theorem tyOk63 : TyOk Tryz.prog 63 ty63:=yC (by kernel_rfl) ⟨by kernel_rfl,by kernel_rfl,by kernel_rfl,by kernel_rfl,by kernel_rfl⟩ rfl (by decide) rfl (fun _ _ h=>by cases h;rfl) (fun h=>by cases h)
def ty42 : TyI:=⟨.struct [(0,3),(1,40)],2,32,[.int .i64 0,.slice none 0 0],some ⟨_,(.st (.int .i64) (.sl (.st .str .str)))⟩,false⟩
theorem tyOk42 : TyOk Tryz.prog 42 ty42:=yC (by kernel_rfl) ⟨by kernel_rfl,by kernel_rfl,by kernel_rfl,by kernel_rfl,by kernel_rfl⟩ rfl (by decide) rfl (fun _ _ h=>by cases h;rfl) (fun h=>by cases h)
def ty107 : TyI:=⟨.slice 111,1,24,[.slice none 0 0],some ⟨_,(.sl (.st (.st (.int .i64) (.st .str (.sl (.st .str .str)))) (.int .i64)))⟩,false⟩
theorem tyOk107 : TyOk Tryz.prog 107 ty107:=yC (by kernel_rfl) Tryz.underlying107 rfl (by decide) rfl (fun _ _ h=>by cases h;rfl) (fun h=>by cases h)
def ty5 : TyI:=⟨.int .u8,1,1,[.int .u8 0],some ⟨_,(.int .u8)⟩,true⟩
theorem tyOk5 : TyOk Tryz.prog 5 ty5:=yC (by kernel_rfl) Tryz.underlying5 rfl (by decide) rfl (fun _ _ h=>by cases h;rfl) (fun _=>by kernel_rfl)
def ty73 : TyI:=⟨.struct [(0,9),(1,9)],2,32,[.string ⟨#[]⟩,.string ⟨#[]⟩],some ⟨_,(.st .str .str)⟩,true⟩
theorem tyOk73 : TyOk Tryz.prog 73 ty73:=yC (by kernel_rfl) ⟨by kernel_rfl,by kernel_rfl,by kernel_rfl,by kernel_rfl,by kernel_rfl⟩ rfl (by decide) rfl (fun _ _ h=>by cases h;rfl) (fun _=>by kernel_rfl)
def ty78 : TyI:=⟨.slice 63,1,24,[.slice none 0 0],some ⟨_,(.sl (.st (.int .i64) (.st .str (.sl (.st .str .str)))))⟩,false⟩
theorem tyOk78 : TyOk Tryz.prog 78 ty78:=yC (by kernel_rfl) Tryz.underlying78 rfl (by decide) rfl (fun _ _ h=>by cases h;rfl) (fun h=>by cases h)
def ty87 : TyI:=⟨.struct [(0,82),(1,38),(2,3)],3,56,[.slice none 0 0,.slice none 0 0,.int .i64 0],some ⟨_,(.st (.sl (.sl (.st .bool (.st .str (.st (.int .i64) .str))))) (.st (.sl (.st (.int .i64) (.sl (.st .str .str)))) (.int .i64)))⟩,false⟩
theorem tyOk87 : TyOk Tryz.prog 87 ty87:=yC (by kernel_rfl) ⟨by kernel_rfl,by kernel_rfl,by kernel_rfl,by kernel_rfl,by kernel_rfl⟩ rfl (by decide) rfl (fun _ _ h=>by cases h;rfl) (fun h=>by cases h)
def ty47 : TyI:=⟨.slice 128,1,24,[.slice none 0 0],some ⟨_,(.sl (.st (.st (.int .i64) (.st .str (.sl (.st .str .str)))) (.int .i64)))⟩,false⟩
theorem tyOk47 : TyOk Tryz.prog 47 ty47:=yC (by kernel_rfl) Tryz.underlying47 rfl (by decide) rfl (fun _ _ h=>by cases h;rfl) (fun h=>by cases h)
def ty24 : TyI:=⟨.ptr 109,1,8,[.pointer none],none,false⟩
theorem tyOk24 : TyOk Tryz.prog 24 ty24:=yC (by kernel_rfl) Tryz.underlying24 rfl (by decide) rfl (fun _ _ h=>by cases h) (fun h=>by cases h)
def ty4 : TyI:=⟨.bool,1,1,[.bool false],some ⟨_,.bool⟩,true⟩
theorem tyOk4 : TyOk Tryz.prog 4 ty4:=yC (by kernel_rfl) Tryz.underlying4 rfl (by decide) rfl (fun _ _ h=>by cases h;rfl) (fun _=>by kernel_rfl)
def ty21 : TyI:=⟨.int .i32,1,4,[.int .i32 0],some ⟨_,(.int .i32)⟩,true⟩
theorem tyOk21 : TyOk Tryz.prog 21 ty21:=yC (by kernel_rfl) Tryz.underlying21 rfl (by decide) rfl (fun _ _ h=>by cases h;rfl) (fun _=>by kernel_rfl)
def ty26 : TyI:=⟨.iface,1,16,[.nilIface],some ⟨_,.raw⟩,false⟩
theorem tyOk26 : TyOk Tryz.prog 26 ty26:=yC (by kernel_rfl) ⟨_,Tryz.underlying26⟩ rfl (by decide) rfl (fun _ _ h=>by cases h;rfl) (fun h=>by cases h)
def ty22 : TyI:=⟨.slice 3,1,24,[.slice none 0 0],some ⟨_,(.sl (.int .i64))⟩,false⟩
theorem tyOk22 : TyOk Tryz.prog 22 ty22:=yC (by kernel_rfl) Tryz.underlying22 rfl (by decide) rfl (fun _ _ h=>by cases h;rfl) (fun h=>by cases h)
def ty29 : TyI:=⟨.ptr 115,1,8,[.pointer none],none,false⟩
theorem tyOk29 : TyOk Tryz.prog 29 ty29:=yC (by kernel_rfl) Tryz.underlying29 rfl (by decide) rfl (fun _ _ h=>by cases h) (fun h=>by cases h)
def ty54 : TyI:=⟨.struct [(0,3),(1,3),(2,40)],3,40,[.int .i64 0,.int .i64 0,.slice none 0 0],some ⟨_,(.st (.int .i64) (.st (.int .i64) (.sl (.st .str .str))))⟩,false⟩
theorem tyOk54 : TyOk Tryz.prog 54 ty54:=yC (by kernel_rfl) ⟨by kernel_rfl,by kernel_rfl,by kernel_rfl,by kernel_rfl,by kernel_rfl⟩ rfl (by decide) rfl (fun _ _ h=>by cases h;rfl) (fun h=>by cases h)
def ty109 : TyI:=⟨.struct [(0,107),(1,3),(2,3)],3,40,[.slice none 0 0,.int .i64 0,.int .i64 0],some ⟨_,(.st (.sl (.st (.st (.int .i64) (.st .str (.sl (.st .str .str)))) (.int .i64))) (.st (.int .i64) (.int .i64)))⟩,false⟩
theorem tyOk109 : TyOk Tryz.prog 109 ty109:=yC (by kernel_rfl) ⟨by kernel_rfl,by kernel_rfl,by kernel_rfl,by kernel_rfl,by kernel_rfl⟩ rfl (by decide) rfl (fun _ _ h=>by cases h;rfl) (fun h=>by cases h)
def ty111 : TyI:=⟨.struct [(0,63),(3,3)],4,56,[.int .i64 0,.string ⟨#[]⟩,.slice none 0 0,.int .i64 0],some ⟨_,(.st (.st (.int .i64) (.st .str (.sl (.st .str .str)))) (.int .i64))⟩,false⟩
theorem tyOk111 : TyOk Tryz.prog 111 ty111:=yC (by kernel_rfl) ⟨by kernel_rfl,by kernel_rfl,by kernel_rfl,by kernel_rfl,by kernel_rfl⟩ rfl (by decide) rfl (fun _ _ h=>by cases h;rfl) (fun h=>by cases h)
def ty159 : TyI:=⟨.struct [(0,157),(3,78),(4,155),(5,40),(6,3)],7,120,[.slice none 0 0,.int .i64 0,.bool false,.slice none 0 0,.slice none 0 0,.slice none 0 0,.int .i64 0],some ⟨_,(.st (.st (.sl .str) (.st (.int .i64) .bool)) (.st (.sl (.st (.int .i64) (.st .str (.sl (.st .str .str))))) (.st (.sl .str) (.st (.sl (.st .str .str)) (.int .i64)))))⟩,false⟩
theorem tyOk159 : TyOk Tryz.prog 159 ty159:=yC (by kernel_rfl) ⟨by kernel_rfl,by kernel_rfl,by kernel_rfl,by kernel_rfl,by kernel_rfl⟩ rfl (by decide) rfl (fun _ _ h=>by cases h;rfl) (fun h=>by cases h)
def ty164 : TyI:=⟨.struct [(0,3),(1,3),(2,9),(3,4)],4,40,[.int .i64 0,.int .i64 0,.string ⟨#[]⟩,.bool false],some ⟨_,(.st (.int .i64) (.st (.int .i64) (.st .str .bool)))⟩,true⟩
theorem tyOk164 : TyOk Tryz.prog 164 ty164:=yC (by kernel_rfl) ⟨by kernel_rfl,by kernel_rfl,by kernel_rfl,by kernel_rfl,by kernel_rfl⟩ rfl (by decide) rfl (fun _ _ h=>by cases h;rfl) (fun _=>by kernel_rfl)
def ty32 : TyI:=⟨.slice 89,1,24,[.slice none 0 0],some ⟨_,(.sl (.sl (.st .bool (.st .str (.st (.int .i64) .str)))))⟩,false⟩
theorem tyOk32 : TyOk Tryz.prog 32 ty32:=yC (by kernel_rfl) Tryz.underlying32 rfl (by decide) rfl (fun _ _ h=>by cases h;rfl) (fun h=>by cases h)
def ty150 : TyI:=⟨.struct [(0,4),(1,9),(2,3),(3,9)],4,48,[.bool false,.string ⟨#[]⟩,.int .i64 0,.string ⟨#[]⟩],some ⟨_,(.st .bool (.st .str (.st (.int .i64) .str)))⟩,true⟩
theorem tyOk150 : TyOk Tryz.prog 150 ty150:=yC (by kernel_rfl) ⟨by kernel_rfl,by kernel_rfl,by kernel_rfl,by kernel_rfl,by kernel_rfl⟩ rfl (by decide) rfl (fun _ _ h=>by cases h;rfl) (fun _=>by kernel_rfl)
def ty219 : TyI:=⟨.struct [(0,216),(1,217)],2,32,[.pointer none,.slice none 0 0],none,false⟩
theorem tyOk219 : TyOk Tryz.prog 219 ty219:=yC (by kernel_rfl) ⟨by kernel_rfl,by kernel_rfl,by kernel_rfl,by kernel_rfl,by kernel_rfl⟩ rfl (by decide) rfl (fun _ _ h=>by cases h) (fun h=>by cases h)
def ty93 : TyI:=⟨.struct [(0,3),(1,3),(2,54)],5,56,[.int .i64 0,.int .i64 0,.int .i64 0,.int .i64 0,.slice none 0 0],some ⟨_,(.st (.int .i64) (.st (.int .i64) (.st (.int .i64) (.st (.int .i64) (.sl (.st .str .str))))))⟩,false⟩
theorem tyOk93 : TyOk Tryz.prog 93 ty93:=yC (by kernel_rfl) ⟨by kernel_rfl,by kernel_rfl,by kernel_rfl,by kernel_rfl,by kernel_rfl⟩ rfl (by decide) rfl (fun _ _ h=>by cases h;rfl) (fun h=>by cases h)
def ty128 : TyI:=⟨.struct [(0,63),(3,3)],4,56,[.int .i64 0,.string ⟨#[]⟩,.slice none 0 0,.int .i64 0],some ⟨_,(.st (.st (.int .i64) (.st .str (.sl (.st .str .str)))) (.int .i64))⟩,false⟩
theorem tyOk128 : TyOk Tryz.prog 128 ty128:=yC (by kernel_rfl) ⟨by kernel_rfl,by kernel_rfl,by kernel_rfl,by kernel_rfl,by kernel_rfl⟩ rfl (by decide) rfl (fun _ _ h=>by cases h;rfl) (fun h=>by cases h)
def ty115 : TyI:=⟨.struct [(0,32),(1,38),(2,3)],3,56,[.slice none 0 0,.slice none 0 0,.int .i64 0],some ⟨_,(.st (.sl (.sl (.st .bool (.st .str (.st (.int .i64) .str))))) (.st (.sl (.st (.int .i64) (.sl (.st .str .str)))) (.int .i64)))⟩,false⟩
theorem tyOk115 : TyOk Tryz.prog 115 ty115:=yC (by kernel_rfl) ⟨by kernel_rfl,by kernel_rfl,by kernel_rfl,by kernel_rfl,by kernel_rfl⟩ rfl (by decide) rfl (fun _ _ h=>by cases h;rfl) (fun h=>by cases h)
def ty91 : TyI:=⟨.struct [(0,4),(1,9),(2,3),(3,9)],4,48,[.bool false,.string ⟨#[]⟩,.int .i64 0,.string ⟨#[]⟩],some ⟨_,(.st .bool (.st .str (.st (.int .i64) .str)))⟩,true⟩
theorem tyOk91 : TyOk Tryz.prog 91 ty91:=yC (by kernel_rfl) ⟨by kernel_rfl,by kernel_rfl,by kernel_rfl,by kernel_rfl,by kernel_rfl⟩ rfl (by decide) rfl (fun _ _ h=>by cases h;rfl) (fun _=>by kernel_rfl)
def ty177 : TyI:=⟨.slice 180,1,24,[.slice none 0 0],some ⟨_,(.sl (.st (.int .i64) (.st (.int .i64) (.st .str .bool))))⟩,false⟩
theorem tyOk177 : TyOk Tryz.prog 177 ty177:=yC (by kernel_rfl) Tryz.underlying177 rfl (by decide) rfl (fun _ _ h=>by cases h;rfl) (fun h=>by cases h)
def ty217 : TyI:=⟨.slice 5,1,24,[.slice none 0 0],some ⟨_,(.sl (.int .u8))⟩,false⟩
theorem tyOk217 : TyOk Tryz.prog 217 ty217:=yC (by kernel_rfl) Tryz.underlying217 rfl (by decide) rfl (fun _ _ h=>by cases h;rfl) (fun h=>by cases h)
def ty89 : TyI:=⟨.slice 91,1,24,[.slice none 0 0],some ⟨_,(.sl (.st .bool (.st .str (.st (.int .i64) .str))))⟩,false⟩
theorem tyOk89 : TyOk Tryz.prog 89 ty89:=yC (by kernel_rfl) Tryz.underlying89 rfl (by decide) rfl (fun _ _ h=>by cases h;rfl) (fun h=>by cases h)
def ty75 : TyI:=⟨.int .i64,1,8,[.int .i64 0],some ⟨_,(.int .i64)⟩,true⟩
theorem tyOk75 : TyOk Tryz.prog 75 ty75:=yC (by kernel_rfl) Tryz.underlying75 rfl (by decide) rfl (fun _ _ h=>by cases h;rfl) (fun _=>by kernel_rfl)
def ty256 : TyI:=⟨.int .u32,1,4,[.int .u32 0],some ⟨_,(.int .u32)⟩,true⟩
theorem tyOk256 : TyOk Tryz.prog 256 ty256:=yC (by kernel_rfl) Tryz.underlying256 rfl (by decide) rfl (fun _ _ h=>by cases h;rfl) (fun _=>by kernel_rfl)
def ty82 : TyI:=⟨.slice 149,1,24,[.slice none 0 0],some ⟨_,(.sl (.sl (.st .bool (.st .str (.st (.int .i64) .str)))))⟩,false⟩
theorem tyOk82 : TyOk Tryz.prog 82 ty82:=yC (by kernel_rfl) Tryz.underlying82 rfl (by decide) rfl (fun _ _ h=>by cases h;rfl) (fun h=>by cases h)
def ty154 : TyI:=⟨.ptr 159,1,8,[.pointer none],none,false⟩
theorem tyOk154 : TyOk Tryz.prog 154 ty154:=yC (by kernel_rfl) Tryz.underlying154 rfl (by decide) rfl (fun _ _ h=>by cases h) (fun h=>by cases h)
def ty149 : TyI:=⟨.slice 150,1,24,[.slice none 0 0],some ⟨_,(.sl (.st .bool (.st .str (.st (.int .i64) .str))))⟩,false⟩
theorem tyOk149 : TyOk Tryz.prog 149 ty149:=yC (by kernel_rfl) Tryz.underlying149 rfl (by decide) rfl (fun _ _ h=>by cases h;rfl) (fun h=>by cases h)
def ty157 : TyI:=⟨.struct [(0,155),(1,3),(2,4)],3,40,[.slice none 0 0,.int .i64 0,.bool false],some ⟨_,(.st (.sl .str) (.st (.int .i64) .bool))⟩,false⟩
theorem tyOk157 : TyOk Tryz.prog 157 ty157:=yC (by kernel_rfl) ⟨by kernel_rfl,by kernel_rfl,by kernel_rfl,by kernel_rfl,by kernel_rfl⟩ rfl (by decide) rfl (fun _ _ h=>by cases h;rfl) (fun h=>by cases h)
def ty216 : TyI:=⟨.ptr 219,1,8,[.pointer none],none,false⟩
theorem tyOk216 : TyOk Tryz.prog 216 ty216:=yC (by kernel_rfl) Tryz.underlying216 rfl (by decide) rfl (fun _ _ h=>by cases h) (fun h=>by cases h)
def ty263 : TyI:=⟨.struct [(0,5),(1,5)],2,2,[.int .u8 0,.int .u8 0],some ⟨_,(.st (.int .u8) (.int .u8))⟩,true⟩
theorem tyOk263 : TyOk Tryz.prog 263 ty263:=yC (by kernel_rfl) ⟨by kernel_rfl,by kernel_rfl,by kernel_rfl,by kernel_rfl,by kernel_rfl⟩ rfl (by decide) rfl (fun _ _ h=>by cases h;rfl) (fun _=>by kernel_rfl)
def ty180 : TyI:=⟨.struct [(0,3),(1,3),(2,9),(3,4)],4,40,[.int .i64 0,.int .i64 0,.string ⟨#[]⟩,.bool false],some ⟨_,(.st (.int .i64) (.st (.int .i64) (.st .str .bool)))⟩,true⟩
theorem tyOk180 : TyOk Tryz.prog 180 ty180:=yC (by kernel_rfl) ⟨by kernel_rfl,by kernel_rfl,by kernel_rfl,by kernel_rfl,by kernel_rfl⟩ rfl (by decide) rfl (fun _ _ h=>by cases h;rfl) (fun _=>by kernel_rfl)
def ty45 : TyI:=⟨.slice 54,1,24,[.slice none 0 0],some ⟨_,(.sl (.st (.int .i64) (.st (.int .i64) (.sl (.st .str .str)))))⟩,false⟩
theorem tyOk45 : TyOk Tryz.prog 45 ty45:=yC (by kernel_rfl) Tryz.underlying45 rfl (by decide) rfl (fun _ _ h=>by cases h;rfl) (fun h=>by cases h)
def ty133 : TyI:=⟨.struct [(0,3),(1,26)],2,24,[.int .i64 0,.nilIface],some ⟨_,(.st (.int .i64) .raw)⟩,false⟩
theorem tyOk133 : TyOk Tryz.prog 133 ty133:=yC (by kernel_rfl) ⟨by kernel_rfl,by kernel_rfl,by kernel_rfl,by kernel_rfl,by kernel_rfl⟩ rfl (by decide) rfl (fun _ _ h=>by cases h;rfl) (fun h=>by cases h)
def ty83 : TyI:=⟨.slice 93,1,24,[.slice none 0 0],some ⟨_,(.sl (.st (.int .i64) (.st (.int .i64) (.st (.int .i64) (.st (.int .i64) (.sl (.st .str .str)))))))⟩,false⟩
theorem tyOk83 : TyOk Tryz.prog 83 ty83:=yC (by kernel_rfl) Tryz.underlying83 rfl (by decide) rfl (fun _ _ h=>by cases h;rfl) (fun h=>by cases h)
def ty130 : TyI:=⟨.ptr 133,1,8,[.pointer none],none,false⟩
theorem tyOk130 : TyOk Tryz.prog 130 ty130:=yC (by kernel_rfl) Tryz.underlying130 rfl (by decide) rfl (fun _ _ h=>by cases h) (fun h=>by cases h)
def ty170 : TyI:=⟨.other,1,8,[.nilFunc],none,false⟩
theorem tyOk170 : TyOk Tryz.prog 170 ty170:=yC (by kernel_rfl) ⟨_,Tryz.underlying170,trivial⟩ rfl (by decide) rfl (fun _ _ h=>by cases h) (fun h=>by cases h)
def ty243 : TyI:=⟨.ptr 239,1,8,[.pointer none],none,false⟩
theorem tyOk243 : TyOk Tryz.prog 243 ty243:=yC (by kernel_rfl) Tryz.underlying243 rfl (by decide) rfl (fun _ _ h=>by cases h) (fun h=>by cases h)
def ty169 : TyI:=⟨.other,1,8,[.nilFunc],none,false⟩
theorem tyOk169 : TyOk Tryz.prog 169 ty169:=yC (by kernel_rfl) ⟨_,Tryz.underlying169,trivial⟩ rfl (by decide) rfl (fun _ _ h=>by cases h) (fun h=>by cases h)
def ty173 : TyI:=⟨.other,1,8,[.nilFunc],none,false⟩
theorem tyOk173 : TyOk Tryz.prog 173 ty173:=yC (by kernel_rfl) ⟨_,Tryz.underlying173,trivial⟩ rfl (by decide) rfl (fun _ _ h=>by cases h) (fun h=>by cases h)
def ty206 : TyI:=⟨.other,1,8,[.nilFunc],none,false⟩
theorem tyOk206 : TyOk Tryz.prog 206 ty206:=yC (by kernel_rfl) ⟨_,Tryz.underlying206,trivial⟩ rfl (by decide) rfl (fun _ _ h=>by cases h) (fun h=>by cases h)
def ty175 : TyI:=⟨.other,1,8,[.nilFunc],none,false⟩
theorem tyOk175 : TyOk Tryz.prog 175 ty175:=yC (by kernel_rfl) ⟨_,Tryz.underlying175,trivial⟩ rfl (by decide) rfl (fun _ _ h=>by cases h) (fun h=>by cases h)
def ty234 : TyI:=⟨.ptr 5,1,8,[.pointer none],none,false⟩
theorem tyOk234 : TyOk Tryz.prog 234 ty234:=yC (by kernel_rfl) Tryz.underlying234 rfl (by decide) rfl (fun _ _ h=>by cases h) (fun h=>by cases h)
def te : List (TypeId × TyI):=[(3,ty3),(9,ty9),(49,ty49),(40,ty40),(38,ty38),(155,ty155),(63,ty63),(42,ty42),(107,ty107),(5,ty5),(73,ty73),(78,ty78),(87,ty87),(47,ty47),(24,ty24),(4,ty4),(21,ty21),(26,ty26),(22,ty22),(29,ty29),(54,ty54),(109,ty109),(111,ty111),(159,ty159),(164,ty164),(32,ty32),(150,ty150),(219,ty219),(93,ty93),(128,ty128),(115,ty115),(91,ty91),(177,ty177),(217,ty217),(89,ty89),(75,ty75),(256,ty256),(82,ty82),(154,ty154),(149,ty149),(157,ty157),(216,ty216),(263,ty263),(180,ty180),(45,ty45),(133,ty133),(83,ty83),(130,ty130),(170,ty170),(243,ty243),(169,ty169),(173,ty173),(206,ty206),(175,ty175),(234,ty234)]
theorem teOk : TEok Tryz.prog te:=by
  intro p hp;simp only [te,List.mem_cons,List.not_mem_nil,or_false] at hp;rcases hp with rfl|rfl|rfl|rfl|rfl|rfl|rfl|rfl|rfl|rfl|rfl|rfl|rfl|rfl|rfl|rfl|rfl|rfl|rfl|rfl|rfl|rfl|rfl|rfl|rfl|rfl|rfl|rfl|rfl|rfl|rfl|rfl|rfl|rfl|rfl|rfl|rfl|rfl|rfl|rfl|rfl|rfl|rfl|rfl|rfl|rfl|rfl|rfl|rfl|rfl|rfl|rfl|rfl|rfl|rfl
  · exact tyOk3
  · exact tyOk9
  · exact tyOk49
  · exact tyOk40
  · exact tyOk38
  · exact tyOk155
  · exact tyOk63
  · exact tyOk42
  · exact tyOk107
  · exact tyOk5
  · exact tyOk73
  · exact tyOk78
  · exact tyOk87
  · exact tyOk47
  · exact tyOk24
  · exact tyOk4
  · exact tyOk21
  · exact tyOk26
  · exact tyOk22
  · exact tyOk29
  · exact tyOk54
  · exact tyOk109
  · exact tyOk111
  · exact tyOk159
  · exact tyOk164
  · exact tyOk32
  · exact tyOk150
  · exact tyOk219
  · exact tyOk93
  · exact tyOk128
  · exact tyOk115
  · exact tyOk91
  · exact tyOk177
  · exact tyOk217
  · exact tyOk89
  · exact tyOk75
  · exact tyOk256
  · exact tyOk82
  · exact tyOk154
  · exact tyOk149
  · exact tyOk157
  · exact tyOk216
  · exact tyOk263
  · exact tyOk180
  · exact tyOk45
  · exact tyOk133
  · exact tyOk83
  · exact tyOk130
  · exact tyOk170
  · exact tyOk243
  · exact tyOk169
  · exact tyOk173
  · exact tyOk206
  · exact tyOk175
  · exact tyOk234
end Ab
end Go.Proofs.YtlbainbjlibfiaaGreatDoor
namespace Go.Proofs.YtlbainbjlibfiaaGreatDoor
open Go.RowKit
namespace Bld
set_option maxRecDepth 100000
set_option maxHeartbeats 1000000
abbrev IsB (B b : Nat) (bs : List Value) (w : World) : Prop:=Lib.IsBuilder 219 5 B b bs w
theorem sizeBuilder : (Tryz.prog.info? 219).map (·.size) = some 2:=by kernel_rfl
theorem liesBuilder : liesAt Tryz.prog Tryz.prog.depth 219 (2 / Tryz.prog.cellsOf 219) 0 219 1 = true:=by kernel_rfl
theorem infoByte : (Tryz.prog.info? 5).map (fun i=>(i.zero,i.size,i.bytes)) = some (some (.int .u8 0),1,1):=by kernel_rfl
theorem copyCheck_used (b : Nat) (w : World) (h0 : w.cell? ⟨b,0,none⟩ = some (.pointer (some ⟨b,0,none⟩))) :
    Calls Tryz.prog 154 #[.pointer (some ⟨b,0,none⟩)] w fun e w'=>e = .returned (.tuple #[]) ∧ w' = w:=by
  obtain ⟨j,hj,_⟩:=Option.map_eq_some_iff.1 sizeBuilder
  go_enter Tryz.func154,Tryz.ntmps154
  go_wp2
  rw [Lib.run_neq_ptr_same w _ Tryz.underlying216 hj]
  go_wp2
  go_end0
  exact ⟨rfl,rfl⟩
theorem copyCheck_fresh (b : Nat) (w : World) (h0 : w.cell? ⟨b,0,none⟩ = some (.pointer none)) (hsh : w.shape? b = some (219,2)) (hfz : w.frozen? ⟨b,0,none⟩ = false) :
    Calls Tryz.prog 154 #[.pointer (some ⟨b,0,none⟩)] w fun e w'=>e = .returned (.tuple #[]) ∧ w' = w.setCell ⟨b,0,none⟩ (.pointer (some ⟨b,0,none⟩)):=by
  obtain ⟨j,hj,hjs⟩:=Option.map_eq_some_iff.1 sizeBuilder
  go_enter Tryz.func154,Tryz.ntmps154
  go_wp2
  rw [Lib.run_to_unsafe w ⟨b,0,none⟩ Tryz.underlying216 Tryz.underlying247 hj (by rw [hjs];decide) hsh (Nat.zero_lt_succ 1)];simp only [Result.andThen];rw [Oper.upon_value]
  go_wp2
  rw [run_callFunc_extern Tryz.func172 (by kernel_rfl) (by kernel_rfl) (by kernel_rfl) (e:=Extern.AbiNoEscape.same) (by kernel_rfl)];rw [Lib.run_noEscape];simp only [Result.andThen];rw [Oper.upon_value]
  go_wp2
  rw [Lib.run_from_unsafe w ⟨b,0,none⟩ Tryz.underlying247 Tryz.underlying216 hj hsh liesBuilder];simp only [Result.andThen];rw [Oper.upon_value]
  go_wp2
  go_end0
  exact ⟨rfl,rfl⟩
end Bld
end Go.Proofs.YtlbainbjlibfiaaGreatDoor
namespace Go.Proofs.YtlbainbjlibfiaaGreatDoor
open Go.RowKit
namespace Ab
abbrev bldO (u : Bool) (xs : List Int) : Obs:=[(0,.box 219 [.nself u 0,.vec 1]),(1,.vec 5 (.int .u8) xs)]
theorem setCell_grew {w : World} {b i : Nat} {v : Value} : Grew w (w.setCell ⟨b,i,none⟩ v) (some b) :=
  ⟨rfl,rfl,rfl,by simp [World.setCell],fun k _ hk=>by
    simp only [World.setCell,Array.getElem?_modify];rw [if_neg (fun e=>hk (by rw [e]))]⟩
theorem setCell_heap {w : World} {b i : Nat} {v : Value} {cs : Array Value} {T : TypeId} {fr : Nat × Nat} (h : w.heap[b]? = some (.cells cs T fr)) : (w.setCell ⟨b,i,none⟩ v).heap[b]? = some (.cells (cs.setIfInBounds i v) T fr):=by
  simp [World.setCell,Array.getElem?_modify,h]
theorem copyCheck_o (u : Bool) (xs : List Int) : yD Tryz.prog 154 [.one (.own 0 0)] (bldO u xs) 2 (.tup []) (bldO true xs) 2:=by
  refine ⟨⟨_,Tryz.func154,rfl,rfl⟩,fun cx ρ w vs hN hnx hw hs hvs=>?_⟩;obtain ⟨b,cs,hρ,hh,hcs⟩:=hs.obs (0,.box 219 [.nself u 0,.vec 1]) (by simp);obtain ⟨p,r,rfl,hp,v,r2,rfl,hv,hr⟩:=hcs;rw [show r2 = [] from hr] at hh;obtain ⟨q,r3,rfl,⟨b',hb1,hb2⟩,hr3⟩:=hvs;rw [hρ] at hb1;simp only [Option.some.injEq,Value.pointer.injEq,Addr.mk.injEq,and_true] at hb1;subst hb1;rw [show r3 = [] from hr3,hb2];have hh : w.heap[b]? = some (.cells #[p,v] 219 (0,0)):=hh;cases u with
  | true =>
    obtain ⟨b2,hb3,hb4⟩:=hp.1 rfl;rw [hρ] at hb3;simp only [Option.some.injEq,Value.pointer.injEq,Addr.mk.injEq,and_true] at hb3;subst hb3;refine (Bld.copyCheck_used b w (by simp [World.cell?,hh,hb4])).mono ?_
    rintro e w' ⟨rfl,rfl⟩
    exact ⟨_,ρ,rfl,hs,[],rfl,rfl⟩
  | false =>
    have hp : p = .pointer none:=hp.2 rfl;refine (Bld.copyCheck_fresh b w (by simp [World.cell?,hh,hp]) (by simp [World.shape?,hh]) (Lib.frozen_of_heap hh 0)).mono ?_
    rintro e w' ⟨rfl,rfl⟩
    refine ⟨_,ρ,rfl,?_,[],rfl,rfl⟩;have hg : getO (bldO false xs) 0 = some (.box 219 [.nself false 0,.vec 1]):=rfl;have hk : xD (okOf cx ρ (bldO false xs)) (okOf cx ρ (bldO false xs)) w (w.setCell ⟨b,0,none⟩ (.pointer (some ⟨b,0,none⟩))) :=
      fun _ k hk hlt=>⟨hk,setCell_grew.block k hlt (fun e=>hk.2 _ (yJ hg) (by rw [hρ];exact e.symm))⟩
    have:=hs.write (o':=.box 219 [.nself true 0,.vec 1]) hg (w':=w.setCell ⟨b,0,none⟩ (.pointer (some ⟨b,0,none⟩))) (by rw [hρ];exact setCell_grew) (by simp [World.setCell]) ⟨b,[.pointer (some ⟨b,0,none⟩),v],hρ,setCell_heap hh,_,_,rfl,⟨fun _=>⟨b,hρ,rfl⟩,fun e=>by (cases e)⟩,_,_,rfl,C.kept (c:=.vec 1) hk hv,rfl⟩;exact this
set_option maxRecDepth 10000
theorem writeString_o (u : Bool) (xs : List Int) (t : ByteArray) (hl : xs.length + t.size ≤ 140737488355328) : yD Tryz.prog 136 [.one (.own 0 0),is t] (bldO u xs) 2
    (.tup [(false,[.lit (.int .i64 t.size)]),(false,[.lit .nilIface])]) (bldO true (xs ++ xW t)) 2:=by
  refine yB (rs:=[4,5]) Tryz.func136 rfl rfl rfl teOk (by decide) rfl ?_;refine qC (qB ?_);refine qC (qB ?_);refine Or.inr (Or.inl (zei [] (zei [0,1] (zei _ (zei _ (zei _ (zei _ (zei _ (zai (copyCheck_o u xs) (zai rfl (zai (zai (zai rfl rfl) (zai (zai rfl rfl) True.intro)) (zai rfl ?_))))))))))));refine qC (qB ?_);refine zai hl ?_;refine qC (qB ?_);refine qM ?_;exact ⟨rfl,⟨rfl,rfl⟩,rfl⟩
end Ab
end Go.Proofs.YtlbainbjlibfiaaGreatDoor
namespace Go.Proofs.YtlbainbjlibfiaaGreatDoor
open Go.RowKit
namespace Ab
theorem grew_freeze {w w' : World} {g n : Nat} (h : Grew w w' (some g)) : Grew w (w'.freeze ⟨g,0,none⟩ n) (some g):=by
  unfold World.freeze;split
  · exact h
  · exact ⟨h.os,h.tape,h.output,by simpa using h.size,fun k hk hg=>by
      simp only [Array.getElem?_modify];rw [if_neg (fun e=>hg (by rw [e]))];exact h.block k hk hg⟩
theorem grew_drew {w : World} {r : Option Nat} : Grew w w.drew r:=⟨rfl,rfl,rfl,Nat.le_refl _,fun _ _ _=>rfl⟩
theorem grew_alloc {w : World} {o : Obj} {r : Option Nat} : Grew w (w.drew.alloc o) r:=⟨rfl,rfl,rfl,by simp,fun k hk _=>Lib.alloc_old w.drew _ k hk⟩
set_option maxRecDepth 100000
set_option maxHeartbeats 2000000
theorem string_some (b g cap : Nat) (cur : Array Value) (p : Value) (l : List UInt8) (w : World) (h0 : l ≠ []) (hbk : w.heap[b]? = some (.cells #[p,.slice (some ⟨g,0,none⟩) l.length cap] 219 (0,0)))
    (hg : w.heap[g]? = some (.cells cur 5 (0,0))) (hnc : l.length ≤ cap) (hcm : cap ≤ maxLen) (hcs : cur.size = cap * 1) (hown : w.ownsRow 0 5 1 (.slice (some ⟨g,0,none⟩) l.length cap) l.length (Lib.byteCells l)) :
    Calls Tryz.prog 137 #[.pointer (some ⟨b,0,none⟩)] w fun e w'=>e = .returned (.string ⟨l.toArray⟩) ∧ Grew w w' (some g):=by
  have hl0 : l.length ≠ 0:=by simpa using h0
  have c1 : w.drew.cell? ⟨b,1,none⟩ = some (.slice (some ⟨g,0,none⟩) l.length cap):=by
    have : w.drew.heap[b]? = some (.cells #[p,.slice (some ⟨g,0,none⟩) l.length cap] 219 (0,0)):=hbk;rw [Lib.cell_of_heap this];rfl
  have hSD : (Builtin.unsafeSliceData_ #[217] 234 #[.slice (some ⟨g,0,none⟩) l.length cap]).run Tryz.prog w.drew = .ok (.pointer (some ⟨g,0,none⟩)) w.drew :=
    Lib.run_unsafeSliceData_row _ _ _ _ _ _ (by omega)
  have hUS : (Builtin.unsafeString_ #[234,3] 9 #[.pointer (some ⟨g,0,none⟩),.int .i64 l.length]).run Tryz.prog w.drew = .ok (.string ⟨l.toArray⟩) (w.drew.freeze ⟨g,0,none⟩ l.length):=by
    refine Lib.run_unsafeString_row w.drew 234 3 9 5 Tryz.underlying234 (by kernel_rfl) g cur.size (by have hg' : w.drew.heap[g]? = some (.cells cur 5 (0,0)):=hg;simp [World.shape?,hg']) l h0 (by omega) (by unfold maxLen at hcm;omega) ?_;intro j x hx;have:=hown.cells (g:=g) rfl j (.int .u8 x.toNat) (by simp [Lib.byteCells,hx]);exact this
  have mixed : Tryz.prog.follows .mixedOrders = true:=by kernel_rfl
  go_enter Tryz.func137,Tryz.ntmps137
  go_wp2
  go_region_o
  all_goals (go_wp2;go_ret;exact ⟨rfl,grew_freeze grew_drew⟩)
theorem string_nil (b : Nat) (p : Value) (w : World) (hbk : w.heap[b]? = some (.cells #[p,.slice none 0 0] 219 (0,0))) :
    Calls Tryz.prog 137 #[.pointer (some ⟨b,0,none⟩)] w fun e w'=>e = .returned (.string ⟨#[]⟩) ∧ Grew w w' none:=by
  have hUS : ∀ (W : World) (q : Option Addr),(Builtin.unsafeString_ #[234,3] 9 #[.pointer q,.int .i64 0]).run Tryz.prog W = .ok (.string .empty) W:=fun W q=>Lib.run_unsafeString_none W _ _ _ q
  have c1 : w.drew.cell? ⟨b,1,none⟩ = some (.slice none 0 0):=by
    have : w.drew.heap[b]? = some (.cells #[p,.slice none 0 0] 219 (0,0)):=hbk;rw [Lib.cell_of_heap this];rfl
  have hSD : (Builtin.unsafeSliceData_ #[217] 234 #[.slice none 0 0]).run Tryz.prog w.drew = .ok (.pointer none) w.drew:=rfl;have mixed : Tryz.prog.follows .mixedOrders = true:=by kernel_rfl
  go_enter Tryz.func137,Tryz.ntmps137
  go_wp2
  go_region_o
  all_goals (go_wp2;go_ret;exact ⟨rfl,grew_drew⟩)
theorem string_noroom (b g : Nat) (p : Value) (cur : Array Value) (w : World) (hbk : w.heap[b]? = some (.cells #[p,.slice (some ⟨g,0,none⟩) 0 0] 219 (0,0))) (hg : w.heap[g]? = some (.cells cur 5 (0,0))) :
    Calls Tryz.prog 137 #[.pointer (some ⟨b,0,none⟩)] w fun e w'=>e = .returned (.string ⟨#[]⟩) ∧ Grew w w' (some g):=by
  have hUS : ∀ (W : World) (q : Option Addr),(Builtin.unsafeString_ #[234,3] 9 #[.pointer q,.int .i64 0]).run Tryz.prog W = .ok (.string .empty) W:=fun W q=>Lib.run_unsafeString_none W _ _ _ q
  have hlt : b < w.heap.size:=(Array.getElem?_eq_some_iff.1 hbk).1;have c1 : w.drew.cell? ⟨b,1,none⟩ = some (.slice (some ⟨g,0,none⟩) 0 0):=by
    have : w.drew.heap[b]? = some (.cells #[p,.slice (some ⟨g,0,none⟩) 0 0] 219 (0,0)):=hbk;rw [Lib.cell_of_heap this];rfl
  have hSD : (Builtin.unsafeSliceData_ #[217] 234 #[.slice (some ⟨g,0,none⟩) 0 0]).run Tryz.prog w.drew = .ok (.pointer (some ⟨w.drew.heap.size,0,none⟩)) (w.drew.alloc (.view ⟨g,0,none⟩ 5)) :=
    Lib.run_unsafeSliceData_zero w.drew _ _ 5 Tryz.underlying234 ⟨g,0,none⟩ 0 (5,cur.size) (by have hg' : w.drew.heap[g]? = some (.cells cur 5 (0,0)):=hg;simp [World.shape?,hg'])
  have c2 : (w.drew.alloc (.view ⟨g,0,none⟩ 5)).cell? ⟨b,1,none⟩ = some (.slice (some ⟨g,0,none⟩) 0 0):=by
    have : (w.drew.alloc (.view ⟨g,0,none⟩ 5)).heap[b]? = _:=(Lib.alloc_old w.drew _ b hlt).trans hbk;rw [Lib.cell_of_heap this];rfl
  have c3 : (w.alloc (.view ⟨g,0,none⟩ 5)).drew.cell? ⟨b,1,none⟩ = some (.slice (some ⟨g,0,none⟩) 0 0):=c2;have c0 : w.cell? ⟨b,1,none⟩ = some (.slice (some ⟨g,0,none⟩) 0 0):=c1;have mixed : Tryz.prog.follows .mixedOrders = true:=by kernel_rfl
  go_enter Tryz.func137,Tryz.ntmps137
  go_wp2
  go_region_o
  all_goals (go_wp2;go_ret;exact ⟨rfl,grew_alloc⟩)
theorem string_room (b g cap : Nat) (p : Value) (w : World) (hc0 : cap ≠ 0) (hbk : w.heap[b]? = some (.cells #[p,.slice (some ⟨g,0,none⟩) 0 cap] 219 (0,0))) :
    Calls Tryz.prog 137 #[.pointer (some ⟨b,0,none⟩)] w fun e w'=>e = .returned (.string ⟨#[]⟩) ∧ Grew w w' (some g):=by
  have hUS : ∀ (W : World) (q : Option Addr),(Builtin.unsafeString_ #[234,3] 9 #[.pointer q,.int .i64 0]).run Tryz.prog W = .ok (.string .empty) W:=fun W q=>Lib.run_unsafeString_none W _ _ _ q
  have c1 : w.drew.cell? ⟨b,1,none⟩ = some (.slice (some ⟨g,0,none⟩) 0 cap):=by
    have : w.drew.heap[b]? = some (.cells #[p,.slice (some ⟨g,0,none⟩) 0 cap] 219 (0,0)):=hbk;rw [Lib.cell_of_heap this];rfl
  have hSD : (Builtin.unsafeSliceData_ #[217] 234 #[.slice (some ⟨g,0,none⟩) 0 cap]).run Tryz.prog w.drew = .ok (.pointer (some ⟨g,0,none⟩)) w.drew :=
    Lib.run_unsafeSliceData_row _ _ _ _ _ _ hc0
  clear hc0;have mixed : Tryz.prog.follows .mixedOrders = true:=by kernel_rfl
  go_enter Tryz.func137,Tryz.ntmps137
  go_wp2
  go_region_o
  all_goals (go_wp2;go_ret;exact ⟨rfl,grew_drew⟩)
end Ab
end Go.Proofs.YtlbainbjlibfiaaGreatDoor
namespace Go.Proofs.YtlbainbjlibfiaaGreatDoor
open Go.RowKit
namespace Ab
theorem string_calls (b : Nat) (p v : Value) (s : ByteArray) (w : World) (hbk : w.heap[b]? = some (.cells #[p,v] 219 (0,0))) (hown : w.ownsRow 0 5 1 v s.size (Lib.strCells s)) :
    Calls Tryz.prog 137 #[.pointer (some ⟨b,0,none⟩)] w fun e w'=>e = .returned (.string s) ∧ Grew w w' (blk (some v)):=by
  have hs : s = ⟨s.data.toList.toArray⟩:=by cases s;simp
  have hsz : s.size = s.data.toList.length:=by cases s;rfl
  rcases hown.2 with ⟨rfl,hz⟩|⟨g,cap,cur,rfl,_,hg,hnc,hcm,hcs,htake⟩
  · have hl : s.data.toList = []:=List.eq_nil_of_length_eq_zero (by rw [← hsz];exact hz);rw [hl] at hs;refine (string_nil b p w hbk).mono ?_
    rintro e w' ⟨rfl,h⟩
    exact ⟨by rw [hs],h⟩
  · by_cases h0 : s.size = 0
    · have hl : s.data.toList = []:=List.eq_nil_of_length_eq_zero (by rw [← hsz];exact h0);rw [hl] at hs;rw [h0] at hbk
      by_cases hc : cap = 0
      · subst hc;refine (string_noroom b g p cur w hbk hg).mono ?_
        rintro e w' ⟨rfl,h⟩
        exact ⟨by rw [hs],h⟩
      · refine (string_room b g cap p w hc hbk).mono ?_
        rintro e w' ⟨rfl,h⟩
        exact ⟨by rw [hs],h⟩
    · rw [hsz] at hbk hnc hown;refine (string_some b g cap cur p s.data.toList w (fun e=>h0 (by rw [hsz,e];rfl)) hbk hg hnc hcm hcs hown).mono ?_
      rintro e w' ⟨rfl,h⟩
      exact ⟨by rw [← hs],h⟩
theorem string_o (u : Bool) (s : ByteArray) : yD Tryz.prog 137 [.one (.own 0 0)] (bldO u (xW s)) 2 (is s) [] 2:=by
  refine ⟨⟨_,Tryz.func137,rfl,rfl⟩,fun cx ρ w vs hN hnx hw hs hvs=>?_⟩;obtain ⟨b,cs,hρ,hh,hcs⟩:=hs.obs (0,.box 219 [.nself u 0,.vec 1]) (by simp);obtain ⟨p,r,rfl,hp,v,r2,rfl,hv,hr⟩:=hcs;rw [show r2 = [] from hr] at hh;obtain ⟨q,r3,rfl,⟨b',hb1,hb2⟩,hr3⟩:=hvs;rw [hρ] at hb1;simp only [Option.some.injEq,Value.pointer.injEq,Addr.mk.injEq,and_true] at hb1;subst hb1;rw [show r3 = [] from hr3,hb2];have hh : w.heap[b]? = some (.cells #[p,v] 219 (0,0)):=hh;obtain ⟨v',hv',css,h1,h2,h3⟩:=hs.obs (1,.vec 5 (.int .u8) (xW s)) (by simp);have hv1 : ρ 1 = some v:=hv.1;rw [show ρ 1 = some v' from hv'] at hv1;obtain rfl:=Option.some.inj hv1;have hc : css = (xW s).map fun n=>[Value.int .u8 n]:=by
    apply List.ext_getElem
    · simp [h1]
    · intro i hi hi';have hlt : i < (xW s).length:=by rw [← h1];exact hi
      have h4 : css.getD i [] = [.int .u8 (xW s)[i]]:=h2 i hlt;simp only [List.getD,List.getElem?_eq_getElem hi,Option.getD_some] at h4;rw [h4,List.getElem_map]
  have hown : w.ownsRow 0 5 1 v' s.size (Lib.strCells s):=by
    rw [← flat_ints,← hc,← intsOf_length];exact h3
  refine (string_calls b p v' s w hh hown).mono ?_
  rintro e w' ⟨rfl,hg⟩
  refine ⟨_,ρ,rfl,⟨hs.size,DefOk.none hN.2.2,fun _=>trivial,fun p hp=>by (cases hp),List.nodup_nil,fun p hp=>by (cases hp),hs.names,hs.nx0,fun p hp=>by (cases hp),fun p hp=>by (cases hp),?_,hs.disj,hs.pin,hs.glob,hs.bags⟩,rfl⟩;refine ⟨by rw [hw];exact hg.os,by rw [hw];exact hg.tape,by rw [hw];exact hg.output,by rw [hw];exact hg.size,fun k hk hno=>?_,fun k hbg=>by rw [hw];exact .rfl' (hg.block k (by have:=(hs.bags k hbg).1;rw [hw] at this;exact this) fun e=>hs.bag_own hbg (p:=(1,.vec 5 (.int .u8) (xW s))) (by simp) (by rw [show ρ 1 = some v' from hv'];exact e.symm))⟩;rw [hw] at hk ⊢;refine fun _=>hg.block k hk fun e=>?_
  rcases (hs.low (1,.vec 5 (.int .u8) (xW s)) (by simp) k (by rw [show ρ 1 = some v' from hv'];exact e.symm)).2 with h4|h4
  · rw [hw] at h4;omega
  · exact hno h4
end Ab
end Go.Proofs.YtlbainbjlibfiaaGreatDoor
namespace Go.Proofs
open Go.Shelf
def Tryz.lays169_ren : Go.Shelf.Ren:=⟨fun|169=>137|n=>n,fun|70=>216|9=>9|0=>0|72=>219|37=>217|127=>234|3=>3|5=>5|n=>n,fun|n=>n⟩
theorem Tryz.lays169 : Go.Proofs.Lays.n169 Tryz.prog Tryz.lays169_ren:={
  mixed:=by kernel_rfl
  f169:=Tryz.func137.trans (congrArg some (by kernel_rfl))
  t0:=Tryz.underlying0
  a0:=Tryz.isAgg0
  z0:=Tryz.sizeOf0
  v0:=Tryz.zeroValue0
  t3:=Tryz.underlying3
  a3:=Tryz.isAgg3
  z3:=Tryz.sizeOf3
  v3:=Tryz.zeroValue3
  t9:=Tryz.underlying9
  a9:=Tryz.isAgg9
  z9:=Tryz.sizeOf9
  v9:=Tryz.zeroValue9
  t37:=Tryz.underlying217
  a37:=Tryz.isAgg217
  z37:=Tryz.sizeOf217
  v37:=Tryz.zeroValue217
  t70:=Tryz.underlying216
  a70:=Tryz.isAgg216
  z70:=Tryz.sizeOf216
  v70:=Tryz.zeroValue216
  t72:=Tryz.underlying219
  a72:=Tryz.isAgg219
  z72:=Tryz.sizeOf219
  v72:=Tryz.zeroValue219
  t127:=Tryz.underlying234
  a127:=Tryz.isAgg234
  z127:=Tryz.sizeOf234
  v127:=Tryz.zeroValue234 }
theorem Tryz.Builder_Extra_169 : Builder.Extra Tryz.prog Tryz.lays169_ren:={
  sizeBuilder:=by kernel_rfl
  liesBuilder:=by kernel_rfl
  t5:=Tryz.underlying5
  a5:=Tryz.isAgg5
  z5:=Tryz.sizeOf5
  v5:=Tryz.zeroValue5
  infoByte:=by kernel_rfl
  cellsByte:=by kernel_rfl
  sizeByte:=by kernel_rfl
  neB5:=by decide }
open Go.RowKit in
theorem Tryz.Builder_String (B b : Nat) (l : List UInt8) (w : World) (h : Lib.IsBuilder 219 5 B b (Lib.byteCells l) w) (h0 : l ≠ []) :
    Calls Tryz.prog 137 #[.pointer (some ⟨b,0,none⟩)] w fun e w'=>e = .returned (.string ⟨l.toArray⟩) ∧ Below B w w':=Any.Builder_String Tryz.lays169 Tryz.Builder_Extra_169 B b l w h h0
open Go.RowKit in
theorem Tryz.Builder_String_empty (B b : Nat) (w : World) (h : Lib.IsBuilder 219 5 B b [] w) (hBw : B ≤ w.heap.size) :
    Calls Tryz.prog 137 #[.pointer (some ⟨b,0,none⟩)] w fun e w'=>e = .returned (.string ⟨#[]⟩) ∧ Below B w w':=Any.Builder_String_empty Tryz.lays169 Tryz.Builder_Extra_169 B b w h hBw
open Go.RowKit in
theorem Tryz.Builder_String_any (B b : Nat) (l : List UInt8) (w : World) (h : Lib.IsBuilder 219 5 B b (Lib.byteCells l) w) (hBw : B ≤ w.heap.size) :
    Calls Tryz.prog 137 #[.pointer (some ⟨b,0,none⟩)] w fun e w'=>e = .returned (.string ⟨l.toArray⟩) ∧ Below B w w':=Any.Builder_String_any Tryz.lays169 Tryz.Builder_Extra_169 B b l w h hBw
def Tryz.lays241_ren : Go.Shelf.Ren:=⟨fun|241=>168|277=>182|n=>n,fun|70=>216|3=>3|0=>0|72=>219|37=>217|5=>5|n=>n,fun|n=>n⟩
theorem Tryz.lays241 : Go.Proofs.Lays.n241 Tryz.prog Tryz.lays241_ren:={
  mixed:=by kernel_rfl
  f241:=Tryz.func168.trans (congrArg some (by kernel_rfl))
  f277:=Tryz.func182.trans (congrArg some (by kernel_rfl))
  t0:=Tryz.underlying0
  a0:=Tryz.isAgg0
  z0:=Tryz.sizeOf0
  v0:=Tryz.zeroValue0
  t3:=Tryz.underlying3
  a3:=Tryz.isAgg3
  z3:=Tryz.sizeOf3
  v3:=Tryz.zeroValue3
  t37:=Tryz.underlying217
  a37:=Tryz.isAgg217
  z37:=Tryz.sizeOf217
  v37:=Tryz.zeroValue217
  t70:=Tryz.underlying216
  a70:=Tryz.isAgg216
  z70:=Tryz.sizeOf216
  v70:=Tryz.zeroValue216
  t72:=Tryz.underlying219
  a72:=Tryz.isAgg219
  z72:=Tryz.sizeOf219
  v72:=Tryz.zeroValue219 }
theorem Tryz.Builder_Extra_241 : Builder.Extra Tryz.prog Tryz.lays241_ren:={
  sizeBuilder:=by kernel_rfl
  liesBuilder:=by kernel_rfl
  t5:=Tryz.underlying5
  a5:=Tryz.isAgg5
  z5:=Tryz.sizeOf5
  v5:=Tryz.zeroValue5
  infoByte:=by kernel_rfl
  cellsByte:=by kernel_rfl
  sizeByte:=by kernel_rfl
  neB5:=by decide }
open Go.RowKit in
theorem Tryz.Builder_grow_fresh (B b n : Nat) (w : World) (hB : B ≤ b) (hbk : w.heap[b]? = some (.cells #[.pointer (some ⟨b,0,none⟩),.slice none 0 0] 219 (0,0))) (hBw : B ≤ w.heap.size) (hn : n ≤ 281474976710656) :
    Calls Tryz.prog 168 #[.pointer (some ⟨b,0,none⟩),.int .i64 n] w fun e w'=>e = .returned (.tuple #[]) ∧ (Lib.BuilderAt 219 5 B b (.pointer (some ⟨b,0,none⟩)) [] w' ∧ Below B w w'):=Any.Builder_grow_fresh Tryz.lays241 Tryz.Builder_Extra_241 B b n w hB hbk hBw hn
def Tryz.lays165_ren : Go.Shelf.Ren:=⟨fun|165=>147|240=>154|241=>168|276=>172|277=>182|n=>n,fun|70=>216|3=>3|0=>0|4=>4|9=>9|20=>20|72=>219|37=>217|164=>247|5=>5|n=>n,fun|n=>n⟩
theorem Tryz.lays165 : Go.Proofs.Lays.n165 Tryz.prog Tryz.lays165_ren:={
  mixed:=by kernel_rfl
  f165:=Tryz.func147.trans (congrArg some (by kernel_rfl))
  f240:=Tryz.func154.trans (congrArg some (by kernel_rfl))
  f241:=Tryz.func168.trans (congrArg some (by kernel_rfl))
  f276:=Tryz.func172.trans (congrArg some (by kernel_rfl))
  f277:=Tryz.func182.trans (congrArg some (by kernel_rfl))
  t0:=Tryz.underlying0
  a0:=Tryz.isAgg0
  z0:=Tryz.sizeOf0
  v0:=Tryz.zeroValue0
  t3:=Tryz.underlying3
  a3:=Tryz.isAgg3
  z3:=Tryz.sizeOf3
  v3:=Tryz.zeroValue3
  t4:=Tryz.underlying4
  a4:=Tryz.isAgg4
  z4:=Tryz.sizeOf4
  v4:=Tryz.zeroValue4
  t9:=Tryz.underlying9
  a9:=Tryz.isAgg9
  z9:=Tryz.sizeOf9
  v9:=Tryz.zeroValue9
  t20:=Tryz.underlying20
  a20:=Tryz.isAgg20
  z20:=Tryz.sizeOf20
  v20:=Tryz.zeroValue20
  t37:=Tryz.underlying217
  a37:=Tryz.isAgg217
  z37:=Tryz.sizeOf217
  v37:=Tryz.zeroValue217
  t70:=Tryz.underlying216
  a70:=Tryz.isAgg216
  z70:=Tryz.sizeOf216
  v70:=Tryz.zeroValue216
  t72:=Tryz.underlying219
  a72:=Tryz.isAgg219
  z72:=Tryz.sizeOf219
  v72:=Tryz.zeroValue219
  t164:=Tryz.underlying247
  a164:=Tryz.isAgg247
  z164:=Tryz.sizeOf247
  v164:=Tryz.zeroValue247 }
theorem Tryz.Builder_Extra_165 : Builder.Extra Tryz.prog Tryz.lays165_ren:={
  sizeBuilder:=by kernel_rfl
  liesBuilder:=by kernel_rfl
  t5:=Tryz.underlying5
  a5:=Tryz.isAgg5
  z5:=Tryz.sizeOf5
  v5:=Tryz.zeroValue5
  infoByte:=by kernel_rfl
  cellsByte:=by kernel_rfl
  sizeByte:=by kernel_rfl
  neB5:=by decide }
open Go.RowKit in
theorem Tryz.Builder_Grow_fresh (B b n : Nat) (w : World) (hB : B ≤ b) (hbk : w.heap[b]? = some (.cells #[.pointer none,.slice none 0 0] 219 (0,0))) (hBw : B ≤ w.heap.size) (hn : n ≤ 281474976710656) :
    Calls Tryz.prog 147 #[.pointer (some ⟨b,0,none⟩),.int .i64 n] w fun e w'=>e = .returned (.tuple #[]) ∧ (Lib.BuilderAt 219 5 B b (.pointer (some ⟨b,0,none⟩)) [] w' ∧ Below B w w'):=Any.Builder_Grow_fresh Tryz.lays165 Tryz.Builder_Extra_165 B b n w hB hbk hBw hn
def Tryz.lays156_ren : Go.Shelf.Ren:=⟨fun|156=>120|165=>147|166=>136|169=>137|240=>154|241=>168|276=>172|277=>182|n=>n,fun|31=>155|9=>9|3=>3|4=>4|0=>0|20=>20|72=>219|76=>70|70=>216|37=>217|75=>26|127=>234|164=>247|5=>5|80=>80|n=>n,fun|n=>n⟩
theorem Tryz.lays156 : Go.Proofs.Lays.n156 Tryz.prog Tryz.lays156_ren:={
  mixed:=by kernel_rfl
  f156:=Tryz.func120.trans (congrArg some (by kernel_rfl))
  f165:=Tryz.func147.trans (congrArg some (by kernel_rfl))
  f166:=Tryz.func136.trans (congrArg some (by kernel_rfl))
  f169:=Tryz.func137.trans (congrArg some (by kernel_rfl))
  f240:=Tryz.func154.trans (congrArg some (by kernel_rfl))
  f241:=Tryz.func168.trans (congrArg some (by kernel_rfl))
  f276:=Tryz.func172.trans (congrArg some (by kernel_rfl))
  f277:=Tryz.func182.trans (congrArg some (by kernel_rfl))
  t0:=Tryz.underlying0
  a0:=Tryz.isAgg0
  z0:=Tryz.sizeOf0
  v0:=Tryz.zeroValue0
  t3:=Tryz.underlying3
  a3:=Tryz.isAgg3
  z3:=Tryz.sizeOf3
  v3:=Tryz.zeroValue3
  t4:=Tryz.underlying4
  a4:=Tryz.isAgg4
  z4:=Tryz.sizeOf4
  v4:=Tryz.zeroValue4
  t9:=Tryz.underlying9
  a9:=Tryz.isAgg9
  z9:=Tryz.sizeOf9
  v9:=Tryz.zeroValue9
  t20:=Tryz.underlying20
  a20:=Tryz.isAgg20
  z20:=Tryz.sizeOf20
  v20:=Tryz.zeroValue20
  t31:=Tryz.underlying155
  a31:=Tryz.isAgg155
  z31:=Tryz.sizeOf155
  v31:=Tryz.zeroValue155
  t37:=Tryz.underlying217
  a37:=Tryz.isAgg217
  z37:=Tryz.sizeOf217
  v37:=Tryz.zeroValue217
  t70:=Tryz.underlying216
  a70:=Tryz.isAgg216
  z70:=Tryz.sizeOf216
  v70:=Tryz.zeroValue216
  t72:=Tryz.underlying219
  a72:=Tryz.isAgg219
  z72:=Tryz.sizeOf219
  v72:=Tryz.zeroValue219
  t75:=Tryz.underlying26
  a75:=Tryz.isAgg26
  z75:=Tryz.sizeOf26
  v75:=Tryz.zeroValue26
  t76:=Tryz.underlying70
  a76:=Tryz.isAgg70
  z76:=Tryz.sizeOf70
  v76:=Tryz.zeroValue70
  t127:=Tryz.underlying234
  a127:=Tryz.isAgg234
  z127:=Tryz.sizeOf234
  v127:=Tryz.zeroValue234
  t164:=Tryz.underlying247
  a164:=Tryz.isAgg247
  z164:=Tryz.sizeOf247
  v164:=Tryz.zeroValue247 }
theorem Tryz.Builder_Extra_156 : Builder.Extra Tryz.prog Tryz.lays156_ren:={
  sizeBuilder:=by kernel_rfl
  liesBuilder:=by kernel_rfl
  t5:=Tryz.underlying5
  a5:=Tryz.isAgg5
  z5:=Tryz.sizeOf5
  v5:=Tryz.zeroValue5
  infoByte:=by kernel_rfl
  cellsByte:=by kernel_rfl
  sizeByte:=by kernel_rfl
  neB5:=by decide }
open Go.RowKit in
theorem Tryz.strings_Join_none (a : Option Addr) (c : Nat) (sep : ByteArray) (w : World) :
    Calls Tryz.prog 120 #[.slice a 0 c,.string sep] w fun e w'=>e = .returned (.string ⟨#[]⟩) ∧ w' = w:=Any.strings_Join_none Tryz.lays156 Tryz.Builder_Extra_156 a c sep w
open Go.RowKit in
theorem Tryz.strings_Join (bk o c : Nat) (xs : List ByteArray) (sep : ByteArray) (w : World) (hcells : ∀ (j : Nat) x,xs[j]? = some x → w.cell? ⟨bk,o + j,none⟩ = some (.string x)) (hbk : bk < w.heap.size) (hN : xs.length ≤ 140737488355328) (hcap : xs.length ≤ c) (hlen : (Lib.join (xs.map (·.data.toList)) sep.data.toList).length ≤ 140737488355328) :
    Calls Tryz.prog 120 #[.slice (some ⟨bk,o,none⟩) xs.length c,.string sep] w fun e w'=>e = .returned (.string ⟨(Lib.join (xs.map (·.data.toList)) sep.data.toList).toArray⟩) ∧ Below w.heap.size w w':=Any.strings_Join Tryz.lays156 Tryz.Builder_Extra_156 bk o c xs sep w hcells hbk hN hcap hlen
def Tryz.lays231_ren : Go.Shelf.Ren:=⟨fun|231=>158|n=>n,fun|9=>9|5=>5|3=>3|4=>4|n=>n,fun|n=>n⟩
theorem Tryz.lays231 : Go.Proofs.Lays.n231 Tryz.prog Tryz.lays231_ren:={
  mixed:=by kernel_rfl
  f231:=Tryz.func158.trans (congrArg some (by kernel_rfl))
  t3:=Tryz.underlying3
  a3:=Tryz.isAgg3
  z3:=Tryz.sizeOf3
  v3:=Tryz.zeroValue3
  t4:=Tryz.underlying4
  a4:=Tryz.isAgg4
  z4:=Tryz.sizeOf4
  v4:=Tryz.zeroValue4
  t5:=Tryz.underlying5
  a5:=Tryz.isAgg5
  z5:=Tryz.sizeOf5
  v5:=Tryz.zeroValue5
  t9:=Tryz.underlying9
  a9:=Tryz.isAgg9
  z9:=Tryz.sizeOf9
  v9:=Tryz.zeroValue9 }
open Go.RowKit in
theorem Tryz.strings_trimLeftByte (s : ByteArray) (c : UInt8) (w : World) :
    Calls Tryz.prog 158 #[.string s,.int .u8 c.toNat] w fun e w'=>e = .returned (.string ⟨(Lib.trimLeftB s.data.toList c).toArray⟩) ∧ w' = w:=Any.strings_trimLeftByte Tryz.lays231 s c w
def Tryz.lays232_ren : Go.Shelf.Ren:=⟨fun|232=>159|n=>n,fun|9=>9|5=>5|3=>3|4=>4|n=>n,fun|n=>n⟩
theorem Tryz.lays232 : Go.Proofs.Lays.n232 Tryz.prog Tryz.lays232_ren:={
  mixed:=by kernel_rfl
  f232:=Tryz.func159.trans (congrArg some (by kernel_rfl))
  t3:=Tryz.underlying3
  a3:=Tryz.isAgg3
  z3:=Tryz.sizeOf3
  v3:=Tryz.zeroValue3
  t4:=Tryz.underlying4
  a4:=Tryz.isAgg4
  z4:=Tryz.sizeOf4
  v4:=Tryz.zeroValue4
  t5:=Tryz.underlying5
  a5:=Tryz.isAgg5
  z5:=Tryz.sizeOf5
  v5:=Tryz.zeroValue5
  t9:=Tryz.underlying9
  a9:=Tryz.isAgg9
  z9:=Tryz.sizeOf9
  v9:=Tryz.zeroValue9 }
open Go.RowKit in
theorem Tryz.strings_trimRightByte (s : ByteArray) (c : UInt8) (w : World) (hs : s.size ≤ 9223372036854775807) :
    Calls Tryz.prog 159 #[.string s,.int .u8 c.toNat] w fun e w'=>e = .returned (.string ⟨(Lib.trimRightB s.data.toList c).toArray⟩) ∧ w' = w:=Any.strings_trimRightByte Tryz.lays232 s c w hs
def Tryz.lays160_ren : Go.Shelf.Ren:=⟨fun|160=>142|232=>159|231=>158|227=>160|234=>162|233=>161|236=>164|235=>163|228=>177|271=>180|151=>179|197=>178|120=>188|152=>187|260=>186|137=>191|119=>192|224=>175|225=>174|217=>173|266=>184|n=>n,fun|9=>9|4=>4|3=>3|5=>5|117=>240|116=>239|0=>0|124=>243|21=>21|105=>251|46=>250|119=>261|139=>264|138=>263|n=>n,fun|3=>1|4=>2|n=>n⟩
theorem Tryz.lays160 : Go.Proofs.Lays.n160 Tryz.prog Tryz.lays160_ren:={
  mixed:=by kernel_rfl
  f119:=Tryz.func192.trans (congrArg some (by kernel_rfl))
  f120:=Tryz.func188.trans (congrArg some (by kernel_rfl))
  f137:=Tryz.func191.trans (congrArg some (by kernel_rfl))
  f151:=Tryz.func179.trans (congrArg some (by kernel_rfl))
  f152:=Tryz.func187.trans (congrArg some (by kernel_rfl))
  f160:=Tryz.func142.trans (congrArg some (by kernel_rfl))
  f197:=Tryz.func178.trans (congrArg some (by kernel_rfl))
  f217:=Tryz.func173.trans (congrArg some (by kernel_rfl))
  f224:=Tryz.func175.trans (congrArg some (by kernel_rfl))
  f225:=Tryz.func174.trans (congrArg some (by kernel_rfl))
  f227:=Tryz.func160.trans (congrArg some (by kernel_rfl))
  f228:=Tryz.func177.trans (congrArg some (by kernel_rfl))
  f231:=Tryz.func158.trans (congrArg some (by kernel_rfl))
  f232:=Tryz.func159.trans (congrArg some (by kernel_rfl))
  f233:=Tryz.func161.trans (congrArg some (by kernel_rfl))
  f234:=Tryz.func162.trans (congrArg some (by kernel_rfl))
  f235:=Tryz.func163.trans (congrArg some (by kernel_rfl))
  f236:=Tryz.func164.trans (congrArg some (by kernel_rfl))
  f260:=Tryz.func186.trans (congrArg some (by kernel_rfl))
  f266:=Tryz.func184.trans (congrArg some (by kernel_rfl))
  f271:=Tryz.func180.trans (congrArg some (by kernel_rfl))
  t0:=Tryz.underlying0
  a0:=Tryz.isAgg0
  z0:=Tryz.sizeOf0
  v0:=Tryz.zeroValue0
  t3:=Tryz.underlying3
  a3:=Tryz.isAgg3
  z3:=Tryz.sizeOf3
  v3:=Tryz.zeroValue3
  t4:=Tryz.underlying4
  a4:=Tryz.isAgg4
  z4:=Tryz.sizeOf4
  v4:=Tryz.zeroValue4
  t5:=Tryz.underlying5
  a5:=Tryz.isAgg5
  z5:=Tryz.sizeOf5
  v5:=Tryz.zeroValue5
  t9:=Tryz.underlying9
  a9:=Tryz.isAgg9
  z9:=Tryz.sizeOf9
  v9:=Tryz.zeroValue9
  t21:=Tryz.underlying21
  a21:=Tryz.isAgg21
  z21:=Tryz.sizeOf21
  v21:=Tryz.zeroValue21
  t46:=Tryz.underlying250
  a46:=Tryz.isAgg250
  z46:=Tryz.sizeOf250
  v46:=Tryz.zeroValue250
  t105:=Tryz.underlying251
  a105:=Tryz.isAgg251
  z105:=Tryz.sizeOf251
  v105:=Tryz.zeroValue251
  t116:=Tryz.underlying239
  a116:=Tryz.isAgg239
  z116:=Tryz.sizeOf239
  t117:=Tryz.underlying240
  a117:=Tryz.isAgg240
  z117:=Tryz.sizeOf240
  v117:=Tryz.zeroValue240
  t119:=Tryz.underlying261
  a119:=Tryz.isAgg261
  z119:=Tryz.sizeOf261
  t124:=Tryz.underlying243
  a124:=Tryz.isAgg243
  z124:=Tryz.sizeOf243
  v124:=Tryz.zeroValue243
  t138:=Tryz.underlying263
  a138:=Tryz.isAgg263
  z138:=Tryz.sizeOf263
  v138:=Tryz.zeroValue263
  t139:=Tryz.underlying264
  a139:=Tryz.isAgg264
  z139:=Tryz.sizeOf264
  v139:=Tryz.zeroValue264
  g3:=by kernel_rfl
  g4:=by kernel_rfl }
open Go.RowKit in
theorem Tryz.strings_Trim_one (s : ByteArray) (c : UInt8) (hc : c.toNat < 128) (w : World) (hs : s.size ≤ 9223372036854775807) :
    Calls Tryz.prog 142 #[.string s,.string ⟨#[c]⟩] w fun e w'=>e = .returned (.string ⟨(Lib.trimB s.data.toList c).toArray⟩) ∧ (w' = w ∨ w' = w.drew):=Any.strings_Trim_one Tryz.lays160 s c hc w hs
def Tryz.lays119_ren : Go.Shelf.Ren:=⟨fun|119=>192|n=>n,fun|21=>21|4=>4|n=>n,fun|n=>n⟩
def Tryz.lays120_ren : Go.Shelf.Ren:=⟨fun|120=>188|n=>n,fun|5=>5|4=>4|n=>n,fun|n=>n⟩
def Tryz.lays137_ren : Go.Shelf.Ren:=⟨fun|137=>191|217=>173|266=>184|n=>n,fun|9=>9|5=>5|3=>3|n=>n,fun|n=>n⟩
theorem Tryz.lays137 : Go.Proofs.Lays.n137 Tryz.prog Tryz.lays137_ren:={
  mixed:=by kernel_rfl
  f137:=Tryz.func191.trans (congrArg some (by kernel_rfl))
  f217:=Tryz.func173.trans (congrArg some (by kernel_rfl))
  f266:=Tryz.func184.trans (congrArg some (by kernel_rfl))
  t3:=Tryz.underlying3
  a3:=Tryz.isAgg3
  z3:=Tryz.sizeOf3
  v3:=Tryz.zeroValue3
  t5:=Tryz.underlying5
  a5:=Tryz.isAgg5
  z5:=Tryz.sizeOf5
  v5:=Tryz.zeroValue5
  t9:=Tryz.underlying9
  a9:=Tryz.isAgg9
  z9:=Tryz.sizeOf9
  v9:=Tryz.zeroValue9 }
open Go.RowKit in
theorem Tryz.strings_IndexByte (s : ByteArray) (c : Int) (w : World) :
    Calls Tryz.prog 191 #[.string s,.int .u8 c] w fun e w'=>e = .returned (.int .i64 (Lib.indexByte s.data.toList c.toNat.toUInt8)) ∧ w' = w:=Any.strings_IndexByte Tryz.lays137 s c w
open Go.RowKit in
theorem Tryz.Builder_String_f (B b : Nat) (l : List UInt8) (w : World) (h : Lib.IsBuilderF 219 5 B b (Lib.byteCells l) w) (h0 : l ≠ []) :
    Calls Tryz.prog 137 #[.pointer (some ⟨b,0,none⟩)] w fun e w'=>e = .returned (.string ⟨l.toArray⟩) ∧ (Lib.IsBuilderF 219 5 B b (Lib.byteCells l) w' ∧ Below B w w'):=Any.Builder_String_f Tryz.lays169 Tryz.Builder_Extra_169 B b l w h h0
open Go.RowKit in
theorem Tryz.Builder_String_empty_f (B b : Nat) (w : World) (h : Lib.IsBuilderF 219 5 B b [] w) (hBw : B ≤ w.heap.size) :
    Calls Tryz.prog 137 #[.pointer (some ⟨b,0,none⟩)] w fun e w'=>e = .returned (.string ⟨#[]⟩) ∧ (Lib.IsBuilderF 219 5 B b [] w' ∧ Below B w w'):=Any.Builder_String_empty_f Tryz.lays169 Tryz.Builder_Extra_169 B b w h hBw
open Go.RowKit in
theorem Tryz.Builder_String_any_f (B b : Nat) (l : List UInt8) (w : World) (h : Lib.IsBuilderF 219 5 B b (Lib.byteCells l) w) (hBw : B ≤ w.heap.size) :
    Calls Tryz.prog 137 #[.pointer (some ⟨b,0,none⟩)] w fun e w'=>e = .returned (.string ⟨l.toArray⟩) ∧ (Lib.IsBuilderF 219 5 B b (Lib.byteCells l) w' ∧ Below B w w'):=Any.Builder_String_any_f Tryz.lays169 Tryz.Builder_Extra_169 B b l w h hBw
open Go.RowKit in
theorem Tryz.Builder_String_k (B b : Nat) (l : List UInt8) (w : World) (h : Lib.IsBuilderF 219 5 B b (Lib.byteCells l) w) (h0 : l ≠ []) :
    Calls Tryz.prog 137 #[.pointer (some ⟨b,0,none⟩)] w fun e w'=>e = .returned (.string ⟨l.toArray⟩) ∧ (Lib.IsBuilderF 219 5 B b (Lib.byteCells l) w' ∧ Below B w w' ∧ Lib.OthersKept 5 (some b) w w'):=Any.Builder_String_k Tryz.lays169 Tryz.Builder_Extra_169 B b l w h h0
open Go.RowKit in
theorem Tryz.Builder_String_empty_k (B b : Nat) (w : World) (h : Lib.IsBuilderF 219 5 B b [] w) (hBw : B ≤ w.heap.size) :
    Calls Tryz.prog 137 #[.pointer (some ⟨b,0,none⟩)] w fun e w'=>e = .returned (.string ⟨#[]⟩) ∧ (Lib.IsBuilderF 219 5 B b [] w' ∧ Below B w w' ∧ Lib.OthersKept 5 (some b) w w'):=Any.Builder_String_empty_k Tryz.lays169 Tryz.Builder_Extra_169 B b w h hBw
open Go.RowKit in
theorem Tryz.Builder_String_any_k (B b : Nat) (l : List UInt8) (w : World) (h : Lib.IsBuilderF 219 5 B b (Lib.byteCells l) w) (hBw : B ≤ w.heap.size) :
    Calls Tryz.prog 137 #[.pointer (some ⟨b,0,none⟩)] w fun e w'=>e = .returned (.string ⟨l.toArray⟩) ∧ (Lib.IsBuilderF 219 5 B b (Lib.byteCells l) w' ∧ Below B w w' ∧ Lib.OthersKept 5 (some b) w w'):=Any.Builder_String_any_k Tryz.lays169 Tryz.Builder_Extra_169 B b l w h hBw
def Tryz.lays195_ren : Go.Shelf.Ren:=⟨fun|195=>193|n=>n,fun|9=>9|3=>3|0=>0|4=>4|n=>n,fun|n=>n⟩
theorem Tryz.lays195 : Go.Proofs.Lays.n195 Tryz.prog Tryz.lays195_ren:={
  mixed:=by kernel_rfl
  f195:=Tryz.func193.trans (congrArg some (by kernel_rfl))
  t0:=Tryz.underlying0
  a0:=Tryz.isAgg0
  z0:=Tryz.sizeOf0
  v0:=Tryz.zeroValue0
  t3:=Tryz.underlying3
  a3:=Tryz.isAgg3
  z3:=Tryz.sizeOf3
  v3:=Tryz.zeroValue3
  t4:=Tryz.underlying4
  a4:=Tryz.isAgg4
  z4:=Tryz.sizeOf4
  v4:=Tryz.zeroValue4
  t9:=Tryz.underlying9
  a9:=Tryz.isAgg9
  z9:=Tryz.sizeOf9
  v9:=Tryz.zeroValue9 }
open Go.RowKit in
theorem Tryz.utf8_RuneCountInString (s : ByteArray) (w : World) (hs : s.size < 9223372036854775807) :
    Calls Tryz.prog 193 #[.string s] w fun e w'=>e = .returned (.int .i64 (Lib.runeCount s)) ∧ ∃ pos,w' = w.iter s pos:=Any.utf8_RuneCountInString Tryz.lays195 s w hs
open Go.RowKit in
theorem Tryz.Builder_grow_fresh_cap (B b n : Nat) (w : World) (hB : B ≤ b) (hbk : w.heap[b]? = some (.cells #[.pointer (some ⟨b,0,none⟩),.slice none 0 0] 219 (0,0))) (hBw : B ≤ w.heap.size) (hn : n ≤ 281474976710656) :
    Calls Tryz.prog 168 #[.pointer (some ⟨b,0,none⟩),.int .i64 n] w fun e w'=>e = .returned (.tuple #[]) ∧ (Lib.BuilderAt 219 5 B b (.pointer (some ⟨b,0,none⟩)) [] w' ∧ Below B w w') ∧ ∃ p cap,w'.cell? ⟨b,1,none⟩ = some (.slice p 0 cap) ∧ n ≤ cap:=Any.Builder_grow_fresh_cap Tryz.lays241 Tryz.Builder_Extra_241 B b n w hB hbk hBw hn
open Go.RowKit in
theorem Tryz.Builder_Grow_fresh_cap (B b n : Nat) (w : World) (hB : B ≤ b) (hbk : w.heap[b]? = some (.cells #[.pointer none,.slice none 0 0] 219 (0,0))) (hBw : B ≤ w.heap.size) (hn : n ≤ 281474976710656) :
    Calls Tryz.prog 147 #[.pointer (some ⟨b,0,none⟩),.int .i64 n] w fun e w'=>e = .returned (.tuple #[]) ∧ (Lib.BuilderAt 219 5 B b (.pointer (some ⟨b,0,none⟩)) [] w' ∧ Below B w w') ∧ ∃ p cap,w'.cell? ⟨b,1,none⟩ = some (.slice p 0 cap) ∧ n ≤ cap:=Any.Builder_Grow_fresh_cap Tryz.lays165 Tryz.Builder_Extra_165 B b n w hB hbk hBw hn
def Tryz.lays217_ren : Go.Shelf.Ren:=⟨fun|217=>173|266=>184|n=>n,fun|9=>9|5=>5|3=>3|n=>n,fun|n=>n⟩
theorem Tryz.lays217 : Go.Proofs.Lays.n217 Tryz.prog Tryz.lays217_ren:={
  mixed:=by kernel_rfl
  f217:=Tryz.func173.trans (congrArg some (by kernel_rfl))
  f266:=Tryz.func184.trans (congrArg some (by kernel_rfl))
  t3:=Tryz.underlying3
  a3:=Tryz.isAgg3
  z3:=Tryz.sizeOf3
  v3:=Tryz.zeroValue3
  t5:=Tryz.underlying5
  a5:=Tryz.isAgg5
  z5:=Tryz.sizeOf5
  v5:=Tryz.zeroValue5
  t9:=Tryz.underlying9
  a9:=Tryz.isAgg9
  z9:=Tryz.sizeOf9
  v9:=Tryz.zeroValue9 }
open Go.RowKit Go.Lib in
theorem Tryz.stringslite_IndexByte (s : ByteArray) (c : Int) (w : World) :
    Calls Tryz.prog 173 #[.string s,.int .u8 c] w fun e w'=>e = .returned (.int .i64 (Lib.indexByte s.data.toList c.toNat.toUInt8)) ∧ w' = w:=Any.stringslite_IndexByte Tryz.lays217 s c w
def Tryz.lays224_ren : Go.Shelf.Ren:=⟨fun|224=>175|n=>n,fun|3=>3|n=>n,fun|n=>n⟩
theorem Tryz.lays224 : Go.Proofs.Lays.n224 Tryz.prog Tryz.lays224_ren:={
  mixed:=by kernel_rfl
  f224:=Tryz.func175.trans (congrArg some (by kernel_rfl))
  t3:=Tryz.underlying3
  a3:=Tryz.isAgg3
  z3:=Tryz.sizeOf3
  v3:=Tryz.zeroValue3 }
open Go.RowKit Go.Lib in
theorem Tryz.bytealg_Cutover (n : Int) (h0 : 0 ≤ n) (h1 : n < 4611686018427387904) (w : World) :
    Calls Tryz.prog 175 #[.int .i64 n] w fun e w'=>e = .returned (.int .i64 ((n + 16) / 8)) ∧ w' = w:=Any.bytealg_Cutover Tryz.lays224 n h0 h1 w
def Tryz.lays314_ren : Go.Shelf.Ren:=⟨fun|314=>185|n=>n,fun|9=>9|51=>256|3=>3|4=>4|5=>5|46=>250|n=>n,fun|n=>n⟩
theorem Tryz.lays314 : Go.Proofs.Lays.n314 Tryz.prog Tryz.lays314_ren:={
  mixed:=by kernel_rfl
  f314:=Tryz.func185.trans (congrArg some (by kernel_rfl))
  t3:=Tryz.underlying3
  a3:=Tryz.isAgg3
  z3:=Tryz.sizeOf3
  v3:=Tryz.zeroValue3
  t4:=Tryz.underlying4
  a4:=Tryz.isAgg4
  z4:=Tryz.sizeOf4
  v4:=Tryz.zeroValue4
  t5:=Tryz.underlying5
  a5:=Tryz.isAgg5
  z5:=Tryz.sizeOf5
  v5:=Tryz.zeroValue5
  t9:=Tryz.underlying9
  a9:=Tryz.isAgg9
  z9:=Tryz.sizeOf9
  v9:=Tryz.zeroValue9
  t46:=Tryz.underlying250
  a46:=Tryz.isAgg250
  z46:=Tryz.sizeOf250
  v46:=Tryz.zeroValue250
  t51:=Tryz.underlying256
  a51:=Tryz.isAgg256
  z51:=Tryz.sizeOf256
  v51:=Tryz.zeroValue256 }
open Go.RowKit Go.Lib in
theorem Tryz.bytealg_hashStr (sep : ByteArray) (hs : sep.size < 4294967281) (w : World) :
    Calls Tryz.prog 185 #[.string sep] w fun e w'=>e = .returned (.tuple #[.int .u32 (RK.H sep.data.toList % 4294967296),.int .u32 (16777619 ^ sep.size % 4294967296)]) ∧ w' = w:=Any.bytealg_hashStr Tryz.lays314 sep hs w
def Tryz.lays267_ren : Go.Shelf.Ren:=⟨fun|267=>176|314=>185|n=>n,fun|9=>9|3=>3|146=>257|51=>256|4=>4|5=>5|46=>250|n=>n,fun|n=>n⟩
theorem Tryz.lays267 : Go.Proofs.Lays.n267 Tryz.prog Tryz.lays267_ren:={
  mixed:=by kernel_rfl
  f267:=Tryz.func176.trans (congrArg some (by kernel_rfl))
  f314:=Tryz.func185.trans (congrArg some (by kernel_rfl))
  t3:=Tryz.underlying3
  a3:=Tryz.isAgg3
  z3:=Tryz.sizeOf3
  v3:=Tryz.zeroValue3
  t4:=Tryz.underlying4
  a4:=Tryz.isAgg4
  z4:=Tryz.sizeOf4
  v4:=Tryz.zeroValue4
  t5:=Tryz.underlying5
  a5:=Tryz.isAgg5
  z5:=Tryz.sizeOf5
  v5:=Tryz.zeroValue5
  t9:=Tryz.underlying9
  a9:=Tryz.isAgg9
  z9:=Tryz.sizeOf9
  v9:=Tryz.zeroValue9
  t46:=Tryz.underlying250
  a46:=Tryz.isAgg250
  z46:=Tryz.sizeOf250
  v46:=Tryz.zeroValue250
  t51:=Tryz.underlying256
  a51:=Tryz.isAgg256
  z51:=Tryz.sizeOf256
  v51:=Tryz.zeroValue256
  t146:=Tryz.underlying257
  a146:=Tryz.isAgg257
  z146:=Tryz.sizeOf257
  v146:=Tryz.zeroValue257 }
open Go.RowKit Go.Lib in
theorem Tryz.bytealg_IndexRabinKarp (s sep : ByteArray) (h1 : 1 ≤ sep.size) (h2 : sep.size ≤ s.size) (hs : s.size < 4294967281) (w : World) :
    Calls Tryz.prog 176 #[.string s,.string sep] w fun e w'=>e = .returned (.int .i64 (Lib.index s.data.toList sep.data.toList)) ∧ w' = w:=Any.bytealg_IndexRabinKarp Tryz.lays267 s sep h1 h2 hs w
def Tryz.lays219_ren : Go.Shelf.Ren:=⟨fun|219=>156|217=>173|225=>174|224=>175|267=>176|266=>184|314=>185|n=>n,fun|9=>9|3=>3|4=>4|5=>5|46=>250|146=>257|51=>256|n=>n,fun|1=>0|n=>n⟩
theorem Tryz.lays219 : Go.Proofs.Lays.n219 Tryz.prog Tryz.lays219_ren:={
  mixed:=by kernel_rfl
  f217:=Tryz.func173.trans (congrArg some (by kernel_rfl))
  f219:=Tryz.func156.trans (congrArg some (by kernel_rfl))
  f224:=Tryz.func175.trans (congrArg some (by kernel_rfl))
  f225:=Tryz.func174.trans (congrArg some (by kernel_rfl))
  f266:=Tryz.func184.trans (congrArg some (by kernel_rfl))
  f267:=Tryz.func176.trans (congrArg some (by kernel_rfl))
  f314:=Tryz.func185.trans (congrArg some (by kernel_rfl))
  t3:=Tryz.underlying3
  a3:=Tryz.isAgg3
  z3:=Tryz.sizeOf3
  v3:=Tryz.zeroValue3
  t4:=Tryz.underlying4
  a4:=Tryz.isAgg4
  z4:=Tryz.sizeOf4
  v4:=Tryz.zeroValue4
  t5:=Tryz.underlying5
  a5:=Tryz.isAgg5
  z5:=Tryz.sizeOf5
  v5:=Tryz.zeroValue5
  t9:=Tryz.underlying9
  a9:=Tryz.isAgg9
  z9:=Tryz.sizeOf9
  v9:=Tryz.zeroValue9
  t46:=Tryz.underlying250
  a46:=Tryz.isAgg250
  z46:=Tryz.sizeOf250
  v46:=Tryz.zeroValue250
  t51:=Tryz.underlying256
  a51:=Tryz.isAgg256
  z51:=Tryz.sizeOf256
  v51:=Tryz.zeroValue256
  t146:=Tryz.underlying257
  a146:=Tryz.isAgg257
  z146:=Tryz.sizeOf257
  v146:=Tryz.zeroValue257
  g1:=by kernel_rfl }
open Go.RowKit Go.Lib in
theorem Tryz.stringslite_Index_one (s : ByteArray) (c : UInt8) (w : World) :
    Calls Tryz.prog 156 #[.string s,.string ⟨#[c]⟩] w fun e w'=>e = .returned (.int .i64 (Lib.indexByte s.data.toList c)) ∧ w' = w:=Any.stringslite_Index_one Tryz.lays219 s c w
open Go.RowKit Go.Lib in
theorem Tryz.stringslite_Index (s sub : ByteArray) (m : Int) (w : World) (hs : s.size < 4294967281) (hm : w.cell? ⟨0,0,none⟩ = some (.int .i64 m)) :
    Calls Tryz.prog 156 #[.string s,.string sub] w fun e w'=>e = .returned (.int .i64 (Lib.index s.data.toList sub.data.toList)) ∧ w' = w:=Any.stringslite_Index Tryz.lays219 s sub m w hs hm
def Tryz.lays143_ren : Go.Shelf.Ren:=⟨fun|143=>157|219=>156|217=>173|225=>174|224=>175|267=>176|266=>184|314=>185|n=>n,fun|9=>9|3=>3|4=>4|5=>5|46=>250|146=>257|51=>256|n=>n,fun|1=>0|n=>n⟩
theorem Tryz.lays143 : Go.Proofs.Lays.n143 Tryz.prog Tryz.lays143_ren:={
  mixed:=by kernel_rfl
  f143:=Tryz.func157.trans (congrArg some (by kernel_rfl))
  f217:=Tryz.func173.trans (congrArg some (by kernel_rfl))
  f219:=Tryz.func156.trans (congrArg some (by kernel_rfl))
  f224:=Tryz.func175.trans (congrArg some (by kernel_rfl))
  f225:=Tryz.func174.trans (congrArg some (by kernel_rfl))
  f266:=Tryz.func184.trans (congrArg some (by kernel_rfl))
  f267:=Tryz.func176.trans (congrArg some (by kernel_rfl))
  f314:=Tryz.func185.trans (congrArg some (by kernel_rfl))
  t3:=Tryz.underlying3
  a3:=Tryz.isAgg3
  z3:=Tryz.sizeOf3
  v3:=Tryz.zeroValue3
  t4:=Tryz.underlying4
  a4:=Tryz.isAgg4
  z4:=Tryz.sizeOf4
  v4:=Tryz.zeroValue4
  t5:=Tryz.underlying5
  a5:=Tryz.isAgg5
  z5:=Tryz.sizeOf5
  v5:=Tryz.zeroValue5
  t9:=Tryz.underlying9
  a9:=Tryz.isAgg9
  z9:=Tryz.sizeOf9
  v9:=Tryz.zeroValue9
  t46:=Tryz.underlying250
  a46:=Tryz.isAgg250
  z46:=Tryz.sizeOf250
  v46:=Tryz.zeroValue250
  t51:=Tryz.underlying256
  a51:=Tryz.isAgg256
  z51:=Tryz.sizeOf256
  v51:=Tryz.zeroValue256
  t146:=Tryz.underlying257
  a146:=Tryz.isAgg257
  z146:=Tryz.sizeOf257
  v146:=Tryz.zeroValue257
  g1:=by kernel_rfl }
open Go.RowKit Go.Lib in
theorem Tryz.strings_Index_one (s : ByteArray) (c : UInt8) (w : World) :
    Calls Tryz.prog 157 #[.string s,.string ⟨#[c]⟩] w fun e w'=>e = .returned (.int .i64 (Lib.indexByte s.data.toList c)) ∧ w' = w:=Any.strings_Index_one Tryz.lays143 s c w
open Go.RowKit Go.Lib in
theorem Tryz.strings_Index (s sub : ByteArray) (m : Int) (w : World) (hs : s.size < 4294967281) (hm : w.cell? ⟨0,0,none⟩ = some (.int .i64 m)) :
    Calls Tryz.prog 157 #[.string s,.string sub] w fun e w'=>e = .returned (.int .i64 (Lib.index s.data.toList sub.data.toList)) ∧ w' = w:=Any.strings_Index Tryz.lays143 s sub m w hs hm
def Tryz.lays144_ren : Go.Shelf.Ren:=⟨fun|144=>141|143=>157|219=>156|217=>173|225=>174|224=>175|267=>176|266=>184|314=>185|n=>n,fun|9=>9|4=>4|3=>3|5=>5|46=>250|146=>257|51=>256|n=>n,fun|1=>0|n=>n⟩
theorem Tryz.lays144 : Go.Proofs.Lays.n144 Tryz.prog Tryz.lays144_ren:={
  mixed:=by kernel_rfl
  f143:=Tryz.func157.trans (congrArg some (by kernel_rfl))
  f144:=Tryz.func141.trans (congrArg some (by kernel_rfl))
  f217:=Tryz.func173.trans (congrArg some (by kernel_rfl))
  f219:=Tryz.func156.trans (congrArg some (by kernel_rfl))
  f224:=Tryz.func175.trans (congrArg some (by kernel_rfl))
  f225:=Tryz.func174.trans (congrArg some (by kernel_rfl))
  f266:=Tryz.func184.trans (congrArg some (by kernel_rfl))
  f267:=Tryz.func176.trans (congrArg some (by kernel_rfl))
  f314:=Tryz.func185.trans (congrArg some (by kernel_rfl))
  t3:=Tryz.underlying3
  a3:=Tryz.isAgg3
  z3:=Tryz.sizeOf3
  v3:=Tryz.zeroValue3
  t4:=Tryz.underlying4
  a4:=Tryz.isAgg4
  z4:=Tryz.sizeOf4
  v4:=Tryz.zeroValue4
  t5:=Tryz.underlying5
  a5:=Tryz.isAgg5
  z5:=Tryz.sizeOf5
  v5:=Tryz.zeroValue5
  t9:=Tryz.underlying9
  a9:=Tryz.isAgg9
  z9:=Tryz.sizeOf9
  v9:=Tryz.zeroValue9
  t46:=Tryz.underlying250
  a46:=Tryz.isAgg250
  z46:=Tryz.sizeOf250
  v46:=Tryz.zeroValue250
  t51:=Tryz.underlying256
  a51:=Tryz.isAgg256
  z51:=Tryz.sizeOf256
  v51:=Tryz.zeroValue256
  t146:=Tryz.underlying257
  a146:=Tryz.isAgg257
  z146:=Tryz.sizeOf257
  v146:=Tryz.zeroValue257
  g1:=by kernel_rfl }
open Go.RowKit Go.Lib in
theorem Tryz.strings_Contains_one (s : ByteArray) (c : UInt8) (w : World) :
    Calls Tryz.prog 141 #[.string s,.string ⟨#[c]⟩] w fun e w'=>e = .returned (.bool (decide (0 ≤ Lib.indexByte s.data.toList c))) ∧ w' = w:=Any.strings_Contains_one Tryz.lays144 s c w
open Go.RowKit Go.Lib in
theorem Tryz.strings_Contains (s sub : ByteArray) (m : Int) (w : World) (hs : s.size < 4294967281) (hm : w.cell? ⟨0,0,none⟩ = some (.int .i64 m)) :
    Calls Tryz.prog 141 #[.string s,.string sub] w fun e w'=>e = .returned (.bool (Lib.contains s.data.toList sub.data.toList)) ∧ w' = w:=Any.strings_Contains Tryz.lays144 s sub m w hs hm
def Tryz.lays220_ren : Go.Shelf.Ren:=⟨fun|220=>140|219=>156|217=>173|225=>174|224=>175|267=>176|266=>184|314=>185|n=>n,fun|9=>9|4=>4|3=>3|5=>5|46=>250|146=>257|51=>256|n=>n,fun|1=>0|n=>n⟩
theorem Tryz.lays220 : Go.Proofs.Lays.n220 Tryz.prog Tryz.lays220_ren:={
  mixed:=by kernel_rfl
  f217:=Tryz.func173.trans (congrArg some (by kernel_rfl))
  f219:=Tryz.func156.trans (congrArg some (by kernel_rfl))
  f220:=Tryz.func140.trans (congrArg some (by kernel_rfl))
  f224:=Tryz.func175.trans (congrArg some (by kernel_rfl))
  f225:=Tryz.func174.trans (congrArg some (by kernel_rfl))
  f266:=Tryz.func184.trans (congrArg some (by kernel_rfl))
  f267:=Tryz.func176.trans (congrArg some (by kernel_rfl))
  f314:=Tryz.func185.trans (congrArg some (by kernel_rfl))
  t3:=Tryz.underlying3
  a3:=Tryz.isAgg3
  z3:=Tryz.sizeOf3
  v3:=Tryz.zeroValue3
  t4:=Tryz.underlying4
  a4:=Tryz.isAgg4
  z4:=Tryz.sizeOf4
  v4:=Tryz.zeroValue4
  t5:=Tryz.underlying5
  a5:=Tryz.isAgg5
  z5:=Tryz.sizeOf5
  v5:=Tryz.zeroValue5
  t9:=Tryz.underlying9
  a9:=Tryz.isAgg9
  z9:=Tryz.sizeOf9
  v9:=Tryz.zeroValue9
  t46:=Tryz.underlying250
  a46:=Tryz.isAgg250
  z46:=Tryz.sizeOf250
  v46:=Tryz.zeroValue250
  t51:=Tryz.underlying256
  a51:=Tryz.isAgg256
  z51:=Tryz.sizeOf256
  v51:=Tryz.zeroValue256
  t146:=Tryz.underlying257
  a146:=Tryz.isAgg257
  z146:=Tryz.sizeOf257
  v146:=Tryz.zeroValue257
  g1:=by kernel_rfl }
open Go.RowKit Go.Lib in
theorem Tryz.stringslite_Cut (s sep : ByteArray) (m : Int) (w : World) (hs : s.size < 4294967281) (hm : w.cell? ⟨0,0,none⟩ = some (.int .i64 m)) :
    Calls Tryz.prog 140 #[.string s,.string sep] w fun e w'=>e = .returned (.tuple #[.string ⟨(Lib.cut s.data.toList sep.data.toList).1.toArray⟩,.string ⟨(Lib.cut s.data.toList sep.data.toList).2.1.toArray⟩,.bool (Lib.cut s.data.toList sep.data.toList).2.2]) ∧ ∃ n,w' = w.drewN n:=Any.stringslite_Cut Tryz.lays220 s sep m w hs hm
def Tryz.lays145_ren : Go.Shelf.Ren:=⟨fun|145=>114|220=>140|219=>156|217=>173|225=>174|224=>175|267=>176|266=>184|314=>185|n=>n,fun|9=>9|4=>4|59=>198|3=>3|5=>5|46=>250|146=>257|51=>256|n=>n,fun|1=>0|n=>n⟩
theorem Tryz.lays145 : Go.Proofs.Lays.n145 Tryz.prog Tryz.lays145_ren:={
  mixed:=by kernel_rfl
  f145:=Tryz.func114.trans (congrArg some (by kernel_rfl))
  f217:=Tryz.func173.trans (congrArg some (by kernel_rfl))
  f219:=Tryz.func156.trans (congrArg some (by kernel_rfl))
  f220:=Tryz.func140.trans (congrArg some (by kernel_rfl))
  f224:=Tryz.func175.trans (congrArg some (by kernel_rfl))
  f225:=Tryz.func174.trans (congrArg some (by kernel_rfl))
  f266:=Tryz.func184.trans (congrArg some (by kernel_rfl))
  f267:=Tryz.func176.trans (congrArg some (by kernel_rfl))
  f314:=Tryz.func185.trans (congrArg some (by kernel_rfl))
  t3:=Tryz.underlying3
  a3:=Tryz.isAgg3
  z3:=Tryz.sizeOf3
  v3:=Tryz.zeroValue3
  t4:=Tryz.underlying4
  a4:=Tryz.isAgg4
  z4:=Tryz.sizeOf4
  v4:=Tryz.zeroValue4
  t5:=Tryz.underlying5
  a5:=Tryz.isAgg5
  z5:=Tryz.sizeOf5
  v5:=Tryz.zeroValue5
  t9:=Tryz.underlying9
  a9:=Tryz.isAgg9
  z9:=Tryz.sizeOf9
  v9:=Tryz.zeroValue9
  t46:=Tryz.underlying250
  a46:=Tryz.isAgg250
  z46:=Tryz.sizeOf250
  v46:=Tryz.zeroValue250
  t51:=Tryz.underlying256
  a51:=Tryz.isAgg256
  z51:=Tryz.sizeOf256
  v51:=Tryz.zeroValue256
  t59:=Tryz.underlying198
  a59:=Tryz.isAgg198
  z59:=Tryz.sizeOf198
  v59:=Tryz.zeroValue198
  t146:=Tryz.underlying257
  a146:=Tryz.isAgg257
  z146:=Tryz.sizeOf257
  v146:=Tryz.zeroValue257
  g1:=by kernel_rfl }
open Go.RowKit Go.Lib in
theorem Tryz.strings_Cut (s sep : ByteArray) (m : Int) (w : World) (hs : s.size < 4294967281) (hm : w.cell? ⟨0,0,none⟩ = some (.int .i64 m)) :
    Calls Tryz.prog 114 #[.string s,.string sep] w fun e w'=>e = .returned (.tuple #[.string ⟨(Lib.cut s.data.toList sep.data.toList).1.toArray⟩,.string ⟨(Lib.cut s.data.toList sep.data.toList).2.1.toArray⟩,.bool (Lib.cut s.data.toList sep.data.toList).2.2]) ∧ ∃ n,w' = w.drewN n:=Any.strings_Cut Tryz.lays145 s sep m w hs hm
def Tryz.lays138_ren : Go.Shelf.Ren:=⟨fun|138=>190|195=>193|218=>194|143=>157|219=>156|217=>173|225=>174|224=>175|267=>176|266=>184|314=>185|n=>n,fun|9=>9|3=>3|4=>4|5=>5|0=>0|46=>250|146=>257|51=>256|n=>n,fun|1=>0|n=>n⟩
theorem Tryz.lays138 : Go.Proofs.Lays.n138 Tryz.prog Tryz.lays138_ren:={
  mixed:=by kernel_rfl
  f138:=Tryz.func190.trans (congrArg some (by kernel_rfl))
  f143:=Tryz.func157.trans (congrArg some (by kernel_rfl))
  f195:=Tryz.func193.trans (congrArg some (by kernel_rfl))
  f217:=Tryz.func173.trans (congrArg some (by kernel_rfl))
  f218:=Tryz.func194.trans (congrArg some (by kernel_rfl))
  f219:=Tryz.func156.trans (congrArg some (by kernel_rfl))
  f224:=Tryz.func175.trans (congrArg some (by kernel_rfl))
  f225:=Tryz.func174.trans (congrArg some (by kernel_rfl))
  f266:=Tryz.func184.trans (congrArg some (by kernel_rfl))
  f267:=Tryz.func176.trans (congrArg some (by kernel_rfl))
  f314:=Tryz.func185.trans (congrArg some (by kernel_rfl))
  t0:=Tryz.underlying0
  a0:=Tryz.isAgg0
  z0:=Tryz.sizeOf0
  v0:=Tryz.zeroValue0
  t3:=Tryz.underlying3
  a3:=Tryz.isAgg3
  z3:=Tryz.sizeOf3
  v3:=Tryz.zeroValue3
  t4:=Tryz.underlying4
  a4:=Tryz.isAgg4
  z4:=Tryz.sizeOf4
  v4:=Tryz.zeroValue4
  t5:=Tryz.underlying5
  a5:=Tryz.isAgg5
  z5:=Tryz.sizeOf5
  v5:=Tryz.zeroValue5
  t9:=Tryz.underlying9
  a9:=Tryz.isAgg9
  z9:=Tryz.sizeOf9
  v9:=Tryz.zeroValue9
  t46:=Tryz.underlying250
  a46:=Tryz.isAgg250
  z46:=Tryz.sizeOf250
  v46:=Tryz.zeroValue250
  t51:=Tryz.underlying256
  a51:=Tryz.isAgg256
  z51:=Tryz.sizeOf256
  v51:=Tryz.zeroValue256
  t146:=Tryz.underlying257
  a146:=Tryz.isAgg257
  z146:=Tryz.sizeOf257
  v146:=Tryz.zeroValue257
  g1:=by kernel_rfl }
open Go.RowKit Go.Lib in
theorem Tryz.strings_Count_one (s : ByteArray) (c : UInt8) (w : World) :
    Calls Tryz.prog 190 #[.string s,.string ⟨#[c]⟩] w fun e w'=>e = .returned (.int .i64 (Lib.countByte s.data.toList c)) ∧ w' = w:=Any.strings_Count_one Tryz.lays138 s c w
open Go.RowKit Go.Lib in
theorem Tryz.strings_Count (s sub : ByteArray) (m : Int) (w : World) (hs : s.size < 4294967281) (hm : w.cell? ⟨0,0,none⟩ = some (.int .i64 m)) (h2 : 2 ≤ sub.size) :
    Calls Tryz.prog 190 #[.string s,.string sub] w fun e w'=>e = .returned (.int .i64 (Lib.countB s sub)) ∧ w' = w:=Any.strings_Count Tryz.lays138 s sub m w hs hm h2
def Tryz.laysM219_ren : Go.Shelf.Ren:=⟨fun|219=>156|217=>173|225=>174|224=>175|267=>176|266=>184|314=>185|n=>n,fun|9=>9|3=>3|4=>4|5=>5|46=>250|146=>257|51=>256|n=>n,fun|1=>0|n=>n⟩
theorem Tryz.laysM219 : Go.Proofs.LaysM.n219 Tryz.prog Tryz.laysM219_ren:={
  mixed:=by kernel_rfl
  f217:=Tryz.func173.trans (congrArg some (by kernel_rfl))
  f219:=Tryz.func156.trans (congrArg some (by kernel_rfl))
  f224:=Tryz.func175.trans (congrArg some (by kernel_rfl))
  f225:=Tryz.func174.trans (congrArg some (by kernel_rfl))
  f266:=Tryz.func184.trans (congrArg some (by kernel_rfl))
  f267:=Tryz.func176.trans (congrArg some (by kernel_rfl))
  f314:=Tryz.func185.trans (congrArg some (by kernel_rfl))
  t3:=Tryz.underlying3
  a3:=Tryz.isAgg3
  z3:=Tryz.sizeOf3
  v3:=Tryz.zeroValue3
  t4:=Tryz.underlying4
  a4:=Tryz.isAgg4
  z4:=Tryz.sizeOf4
  v4:=Tryz.zeroValue4
  t5:=Tryz.underlying5
  a5:=Tryz.isAgg5
  z5:=Tryz.sizeOf5
  v5:=Tryz.zeroValue5
  t9:=Tryz.underlying9
  a9:=Tryz.isAgg9
  z9:=Tryz.sizeOf9
  v9:=Tryz.zeroValue9
  t46:=Tryz.underlying250
  a46:=Tryz.isAgg250
  z46:=Tryz.sizeOf250
  v46:=Tryz.zeroValue250
  t51:=Tryz.underlying256
  a51:=Tryz.isAgg256
  z51:=Tryz.sizeOf256
  v51:=Tryz.zeroValue256
  t146:=Tryz.underlying257
  a146:=Tryz.isAgg257
  z146:=Tryz.sizeOf257
  v146:=Tryz.zeroValue257
  g1:=by kernel_rfl
  i3:=by kernel_rfl
  i4:=by kernel_rfl
  i5:=by kernel_rfl
  i9:=by kernel_rfl
  i46:=by kernel_rfl
  i51:=by kernel_rfl
  i146:=by kernel_rfl
  m1:=by kernel_rfl
  s1_3:=fun w h=>Go.Proofs.cell_of_shapedOpen_int (zero:=#[.int .i64 0]) (t:=3) h (of_decide_eq_true (by kernel_rfl)) (by kernel_rfl) rfl (by kernel_rfl) (by kernel_rfl) Tryz.underlying3 }
open Go.RowKit Go.Lib in
theorem Tryz.stringslite_Index_shaped (s sub : ByteArray) (w : World) (h : w.ShapedOpen Tryz.prog) (hs : s.size < 4294967281) :
    Calls Tryz.prog 156 #[.string s,.string sub] w fun e w'=>e = .returned (.int .i64 (Lib.index s.data.toList sub.data.toList)) ∧ w' = w:=Any.stringslite_Index_shaped Tryz.laysM219 s sub w h hs
def Tryz.laysM143_ren : Go.Shelf.Ren:=⟨fun|143=>157|219=>156|217=>173|225=>174|224=>175|267=>176|266=>184|314=>185|n=>n,fun|9=>9|3=>3|4=>4|5=>5|46=>250|146=>257|51=>256|n=>n,fun|1=>0|n=>n⟩
theorem Tryz.laysM143 : Go.Proofs.LaysM.n143 Tryz.prog Tryz.laysM143_ren:={
  mixed:=by kernel_rfl
  f143:=Tryz.func157.trans (congrArg some (by kernel_rfl))
  f217:=Tryz.func173.trans (congrArg some (by kernel_rfl))
  f219:=Tryz.func156.trans (congrArg some (by kernel_rfl))
  f224:=Tryz.func175.trans (congrArg some (by kernel_rfl))
  f225:=Tryz.func174.trans (congrArg some (by kernel_rfl))
  f266:=Tryz.func184.trans (congrArg some (by kernel_rfl))
  f267:=Tryz.func176.trans (congrArg some (by kernel_rfl))
  f314:=Tryz.func185.trans (congrArg some (by kernel_rfl))
  t3:=Tryz.underlying3
  a3:=Tryz.isAgg3
  z3:=Tryz.sizeOf3
  v3:=Tryz.zeroValue3
  t4:=Tryz.underlying4
  a4:=Tryz.isAgg4
  z4:=Tryz.sizeOf4
  v4:=Tryz.zeroValue4
  t5:=Tryz.underlying5
  a5:=Tryz.isAgg5
  z5:=Tryz.sizeOf5
  v5:=Tryz.zeroValue5
  t9:=Tryz.underlying9
  a9:=Tryz.isAgg9
  z9:=Tryz.sizeOf9
  v9:=Tryz.zeroValue9
  t46:=Tryz.underlying250
  a46:=Tryz.isAgg250
  z46:=Tryz.sizeOf250
  v46:=Tryz.zeroValue250
  t51:=Tryz.underlying256
  a51:=Tryz.isAgg256
  z51:=Tryz.sizeOf256
  v51:=Tryz.zeroValue256
  t146:=Tryz.underlying257
  a146:=Tryz.isAgg257
  z146:=Tryz.sizeOf257
  v146:=Tryz.zeroValue257
  g1:=by kernel_rfl
  i3:=by kernel_rfl
  i4:=by kernel_rfl
  i5:=by kernel_rfl
  i9:=by kernel_rfl
  i46:=by kernel_rfl
  i51:=by kernel_rfl
  i146:=by kernel_rfl
  m1:=by kernel_rfl
  s1_3:=fun w h=>Go.Proofs.cell_of_shapedOpen_int (zero:=#[.int .i64 0]) (t:=3) h (of_decide_eq_true (by kernel_rfl)) (by kernel_rfl) rfl (by kernel_rfl) (by kernel_rfl) Tryz.underlying3 }
open Go.RowKit Go.Lib in
theorem Tryz.strings_Index_shaped (s sub : ByteArray) (w : World) (h : w.ShapedOpen Tryz.prog) (hs : s.size < 4294967281) :
    Calls Tryz.prog 157 #[.string s,.string sub] w fun e w'=>e = .returned (.int .i64 (Lib.index s.data.toList sub.data.toList)) ∧ w' = w:=Any.strings_Index_shaped Tryz.laysM143 s sub w h hs
def Tryz.laysM144_ren : Go.Shelf.Ren:=⟨fun|144=>141|143=>157|219=>156|217=>173|225=>174|224=>175|267=>176|266=>184|314=>185|n=>n,fun|9=>9|4=>4|3=>3|5=>5|46=>250|146=>257|51=>256|n=>n,fun|1=>0|n=>n⟩
theorem Tryz.laysM144 : Go.Proofs.LaysM.n144 Tryz.prog Tryz.laysM144_ren:={
  mixed:=by kernel_rfl
  f143:=Tryz.func157.trans (congrArg some (by kernel_rfl))
  f144:=Tryz.func141.trans (congrArg some (by kernel_rfl))
  f217:=Tryz.func173.trans (congrArg some (by kernel_rfl))
  f219:=Tryz.func156.trans (congrArg some (by kernel_rfl))
  f224:=Tryz.func175.trans (congrArg some (by kernel_rfl))
  f225:=Tryz.func174.trans (congrArg some (by kernel_rfl))
  f266:=Tryz.func184.trans (congrArg some (by kernel_rfl))
  f267:=Tryz.func176.trans (congrArg some (by kernel_rfl))
  f314:=Tryz.func185.trans (congrArg some (by kernel_rfl))
  t3:=Tryz.underlying3
  a3:=Tryz.isAgg3
  z3:=Tryz.sizeOf3
  v3:=Tryz.zeroValue3
  t4:=Tryz.underlying4
  a4:=Tryz.isAgg4
  z4:=Tryz.sizeOf4
  v4:=Tryz.zeroValue4
  t5:=Tryz.underlying5
  a5:=Tryz.isAgg5
  z5:=Tryz.sizeOf5
  v5:=Tryz.zeroValue5
  t9:=Tryz.underlying9
  a9:=Tryz.isAgg9
  z9:=Tryz.sizeOf9
  v9:=Tryz.zeroValue9
  t46:=Tryz.underlying250
  a46:=Tryz.isAgg250
  z46:=Tryz.sizeOf250
  v46:=Tryz.zeroValue250
  t51:=Tryz.underlying256
  a51:=Tryz.isAgg256
  z51:=Tryz.sizeOf256
  v51:=Tryz.zeroValue256
  t146:=Tryz.underlying257
  a146:=Tryz.isAgg257
  z146:=Tryz.sizeOf257
  v146:=Tryz.zeroValue257
  g1:=by kernel_rfl
  i3:=by kernel_rfl
  i4:=by kernel_rfl
  i5:=by kernel_rfl
  i9:=by kernel_rfl
  i46:=by kernel_rfl
  i51:=by kernel_rfl
  i146:=by kernel_rfl
  m1:=by kernel_rfl
  s1_3:=fun w h=>Go.Proofs.cell_of_shapedOpen_int (zero:=#[.int .i64 0]) (t:=3) h (of_decide_eq_true (by kernel_rfl)) (by kernel_rfl) rfl (by kernel_rfl) (by kernel_rfl) Tryz.underlying3 }
open Go.RowKit Go.Lib in
theorem Tryz.strings_Contains_shaped (s sub : ByteArray) (w : World) (h : w.ShapedOpen Tryz.prog) (hs : s.size < 4294967281) :
    Calls Tryz.prog 141 #[.string s,.string sub] w fun e w'=>e = .returned (.bool (Lib.contains s.data.toList sub.data.toList)) ∧ w' = w:=Any.strings_Contains_shaped Tryz.laysM144 s sub w h hs
def Tryz.laysM220_ren : Go.Shelf.Ren:=⟨fun|220=>140|219=>156|217=>173|225=>174|224=>175|267=>176|266=>184|314=>185|n=>n,fun|9=>9|4=>4|3=>3|5=>5|46=>250|146=>257|51=>256|n=>n,fun|1=>0|n=>n⟩
theorem Tryz.laysM220 : Go.Proofs.LaysM.n220 Tryz.prog Tryz.laysM220_ren:={
  mixed:=by kernel_rfl
  f217:=Tryz.func173.trans (congrArg some (by kernel_rfl))
  f219:=Tryz.func156.trans (congrArg some (by kernel_rfl))
  f220:=Tryz.func140.trans (congrArg some (by kernel_rfl))
  f224:=Tryz.func175.trans (congrArg some (by kernel_rfl))
  f225:=Tryz.func174.trans (congrArg some (by kernel_rfl))
  f266:=Tryz.func184.trans (congrArg some (by kernel_rfl))
  f267:=Tryz.func176.trans (congrArg some (by kernel_rfl))
  f314:=Tryz.func185.trans (congrArg some (by kernel_rfl))
  t3:=Tryz.underlying3
  a3:=Tryz.isAgg3
  z3:=Tryz.sizeOf3
  v3:=Tryz.zeroValue3
  t4:=Tryz.underlying4
  a4:=Tryz.isAgg4
  z4:=Tryz.sizeOf4
  v4:=Tryz.zeroValue4
  t5:=Tryz.underlying5
  a5:=Tryz.isAgg5
  z5:=Tryz.sizeOf5
  v5:=Tryz.zeroValue5
  t9:=Tryz.underlying9
  a9:=Tryz.isAgg9
  z9:=Tryz.sizeOf9
  v9:=Tryz.zeroValue9
  t46:=Tryz.underlying250
  a46:=Tryz.isAgg250
  z46:=Tryz.sizeOf250
  v46:=Tryz.zeroValue250
  t51:=Tryz.underlying256
  a51:=Tryz.isAgg256
  z51:=Tryz.sizeOf256
  v51:=Tryz.zeroValue256
  t146:=Tryz.underlying257
  a146:=Tryz.isAgg257
  z146:=Tryz.sizeOf257
  v146:=Tryz.zeroValue257
  g1:=by kernel_rfl
  i3:=by kernel_rfl
  i4:=by kernel_rfl
  i5:=by kernel_rfl
  i9:=by kernel_rfl
  i46:=by kernel_rfl
  i51:=by kernel_rfl
  i146:=by kernel_rfl
  m1:=by kernel_rfl
  s1_3:=fun w h=>Go.Proofs.cell_of_shapedOpen_int (zero:=#[.int .i64 0]) (t:=3) h (of_decide_eq_true (by kernel_rfl)) (by kernel_rfl) rfl (by kernel_rfl) (by kernel_rfl) Tryz.underlying3 }
open Go.RowKit Go.Lib in
theorem Tryz.stringslite_Cut_shaped (s sep : ByteArray) (w : World) (h : w.ShapedOpen Tryz.prog) (hs : s.size < 4294967281) :
    Calls Tryz.prog 140 #[.string s,.string sep] w fun e w'=>e = .returned (.tuple #[.string ⟨(Lib.cut s.data.toList sep.data.toList).1.toArray⟩,.string ⟨(Lib.cut s.data.toList sep.data.toList).2.1.toArray⟩,.bool (Lib.cut s.data.toList sep.data.toList).2.2]) ∧ ∃ n,w' = w.drewN n:=Any.stringslite_Cut_shaped Tryz.laysM220 s sep w h hs
def Tryz.laysM145_ren : Go.Shelf.Ren:=⟨fun|145=>114|220=>140|219=>156|217=>173|225=>174|224=>175|267=>176|266=>184|314=>185|n=>n,fun|9=>9|4=>4|59=>198|3=>3|5=>5|46=>250|146=>257|51=>256|n=>n,fun|1=>0|n=>n⟩
theorem Tryz.laysM145 : Go.Proofs.LaysM.n145 Tryz.prog Tryz.laysM145_ren:={
  mixed:=by kernel_rfl
  f145:=Tryz.func114.trans (congrArg some (by kernel_rfl))
  f217:=Tryz.func173.trans (congrArg some (by kernel_rfl))
  f219:=Tryz.func156.trans (congrArg some (by kernel_rfl))
  f220:=Tryz.func140.trans (congrArg some (by kernel_rfl))
  f224:=Tryz.func175.trans (congrArg some (by kernel_rfl))
  f225:=Tryz.func174.trans (congrArg some (by kernel_rfl))
  f266:=Tryz.func184.trans (congrArg some (by kernel_rfl))
  f267:=Tryz.func176.trans (congrArg some (by kernel_rfl))
  f314:=Tryz.func185.trans (congrArg some (by kernel_rfl))
  t3:=Tryz.underlying3
  a3:=Tryz.isAgg3
  z3:=Tryz.sizeOf3
  v3:=Tryz.zeroValue3
  t4:=Tryz.underlying4
  a4:=Tryz.isAgg4
  z4:=Tryz.sizeOf4
  v4:=Tryz.zeroValue4
  t5:=Tryz.underlying5
  a5:=Tryz.isAgg5
  z5:=Tryz.sizeOf5
  v5:=Tryz.zeroValue5
  t9:=Tryz.underlying9
  a9:=Tryz.isAgg9
  z9:=Tryz.sizeOf9
  v9:=Tryz.zeroValue9
  t46:=Tryz.underlying250
  a46:=Tryz.isAgg250
  z46:=Tryz.sizeOf250
  v46:=Tryz.zeroValue250
  t51:=Tryz.underlying256
  a51:=Tryz.isAgg256
  z51:=Tryz.sizeOf256
  v51:=Tryz.zeroValue256
  t59:=Tryz.underlying198
  a59:=Tryz.isAgg198
  z59:=Tryz.sizeOf198
  v59:=Tryz.zeroValue198
  t146:=Tryz.underlying257
  a146:=Tryz.isAgg257
  z146:=Tryz.sizeOf257
  v146:=Tryz.zeroValue257
  g1:=by kernel_rfl
  i3:=by kernel_rfl
  i4:=by kernel_rfl
  i5:=by kernel_rfl
  i9:=by kernel_rfl
  i46:=by kernel_rfl
  i51:=by kernel_rfl
  i59:=by kernel_rfl
  i146:=by kernel_rfl
  m1:=by kernel_rfl
  s1_3:=fun w h=>Go.Proofs.cell_of_shapedOpen_int (zero:=#[.int .i64 0]) (t:=3) h (of_decide_eq_true (by kernel_rfl)) (by kernel_rfl) rfl (by kernel_rfl) (by kernel_rfl) Tryz.underlying3 }
open Go.RowKit Go.Lib in
theorem Tryz.strings_Cut_shaped (s sep : ByteArray) (w : World) (h : w.ShapedOpen Tryz.prog) (hs : s.size < 4294967281) :
    Calls Tryz.prog 114 #[.string s,.string sep] w fun e w'=>e = .returned (.tuple #[.string ⟨(Lib.cut s.data.toList sep.data.toList).1.toArray⟩,.string ⟨(Lib.cut s.data.toList sep.data.toList).2.1.toArray⟩,.bool (Lib.cut s.data.toList sep.data.toList).2.2]) ∧ ∃ n,w' = w.drewN n:=Any.strings_Cut_shaped Tryz.laysM145 s sep w h hs
def Tryz.laysM138_ren : Go.Shelf.Ren:=⟨fun|138=>190|195=>193|218=>194|143=>157|219=>156|217=>173|225=>174|224=>175|267=>176|266=>184|314=>185|n=>n,fun|9=>9|3=>3|4=>4|5=>5|0=>0|46=>250|146=>257|51=>256|n=>n,fun|1=>0|n=>n⟩
theorem Tryz.laysM138 : Go.Proofs.LaysM.n138 Tryz.prog Tryz.laysM138_ren:={
  mixed:=by kernel_rfl
  f138:=Tryz.func190.trans (congrArg some (by kernel_rfl))
  f143:=Tryz.func157.trans (congrArg some (by kernel_rfl))
  f195:=Tryz.func193.trans (congrArg some (by kernel_rfl))
  f217:=Tryz.func173.trans (congrArg some (by kernel_rfl))
  f218:=Tryz.func194.trans (congrArg some (by kernel_rfl))
  f219:=Tryz.func156.trans (congrArg some (by kernel_rfl))
  f224:=Tryz.func175.trans (congrArg some (by kernel_rfl))
  f225:=Tryz.func174.trans (congrArg some (by kernel_rfl))
  f266:=Tryz.func184.trans (congrArg some (by kernel_rfl))
  f267:=Tryz.func176.trans (congrArg some (by kernel_rfl))
  f314:=Tryz.func185.trans (congrArg some (by kernel_rfl))
  t0:=Tryz.underlying0
  a0:=Tryz.isAgg0
  z0:=Tryz.sizeOf0
  v0:=Tryz.zeroValue0
  t3:=Tryz.underlying3
  a3:=Tryz.isAgg3
  z3:=Tryz.sizeOf3
  v3:=Tryz.zeroValue3
  t4:=Tryz.underlying4
  a4:=Tryz.isAgg4
  z4:=Tryz.sizeOf4
  v4:=Tryz.zeroValue4
  t5:=Tryz.underlying5
  a5:=Tryz.isAgg5
  z5:=Tryz.sizeOf5
  v5:=Tryz.zeroValue5
  t9:=Tryz.underlying9
  a9:=Tryz.isAgg9
  z9:=Tryz.sizeOf9
  v9:=Tryz.zeroValue9
  t46:=Tryz.underlying250
  a46:=Tryz.isAgg250
  z46:=Tryz.sizeOf250
  v46:=Tryz.zeroValue250
  t51:=Tryz.underlying256
  a51:=Tryz.isAgg256
  z51:=Tryz.sizeOf256
  v51:=Tryz.zeroValue256
  t146:=Tryz.underlying257
  a146:=Tryz.isAgg257
  z146:=Tryz.sizeOf257
  v146:=Tryz.zeroValue257
  g1:=by kernel_rfl
  i0:=by kernel_rfl
  i3:=by kernel_rfl
  i4:=by kernel_rfl
  i5:=by kernel_rfl
  i9:=by kernel_rfl
  i46:=by kernel_rfl
  i51:=by kernel_rfl
  i146:=by kernel_rfl
  m1:=by kernel_rfl
  s1_3:=fun w h=>Go.Proofs.cell_of_shapedOpen_int (zero:=#[.int .i64 0]) (t:=3) h (of_decide_eq_true (by kernel_rfl)) (by kernel_rfl) rfl (by kernel_rfl) (by kernel_rfl) Tryz.underlying3 }
open Go.RowKit Go.Lib in
theorem Tryz.strings_Count_shaped (s sub : ByteArray) (w : World) (h : w.ShapedOpen Tryz.prog) (hs : s.size < 4294967281) (h2 : 2 ≤ sub.size) :
    Calls Tryz.prog 190 #[.string s,.string sub] w fun e w'=>e = .returned (.int .i64 (Lib.countB s sub)) ∧ w' = w:=Any.strings_Count_shaped Tryz.laysM138 s sub w h hs h2
def Tryz.lays206_ren : Go.Shelf.Ren:=⟨fun|206=>165|n=>n,fun|9=>9|4=>4|3=>3|n=>n,fun|n=>n⟩
theorem Tryz.lays206 : Go.Proofs.Lays.n206 Tryz.prog Tryz.lays206_ren:={
  mixed:=by kernel_rfl
  f206:=Tryz.func165.trans (congrArg some (by kernel_rfl))
  t3:=Tryz.underlying3
  a3:=Tryz.isAgg3
  z3:=Tryz.sizeOf3
  v3:=Tryz.zeroValue3
  t4:=Tryz.underlying4
  a4:=Tryz.isAgg4
  z4:=Tryz.sizeOf4
  v4:=Tryz.zeroValue4
  t9:=Tryz.underlying9
  a9:=Tryz.isAgg9
  z9:=Tryz.sizeOf9
  v9:=Tryz.zeroValue9 }
open Go.RowKit Go.Lib in
theorem Tryz.stringslite_HasPrefix (s p : ByteArray) (w : World) :
    Calls Tryz.prog 165 #[.string s,.string p] w fun e w'=>e = .returned (.bool (Lib.hasPrefix s.data.toList p.data.toList)) ∧ w' = w:=Any.stringslite_HasPrefix Tryz.lays206 s p w
def Tryz.lays99_ren : Go.Shelf.Ren:=⟨fun|99=>143|206=>165|n=>n,fun|9=>9|4=>4|3=>3|n=>n,fun|n=>n⟩
theorem Tryz.lays99 : Go.Proofs.Lays.n99 Tryz.prog Tryz.lays99_ren:={
  mixed:=by kernel_rfl
  f99:=Tryz.func143.trans (congrArg some (by kernel_rfl))
  f206:=Tryz.func165.trans (congrArg some (by kernel_rfl))
  t3:=Tryz.underlying3
  a3:=Tryz.isAgg3
  z3:=Tryz.sizeOf3
  v3:=Tryz.zeroValue3
  t4:=Tryz.underlying4
  a4:=Tryz.isAgg4
  z4:=Tryz.sizeOf4
  v4:=Tryz.zeroValue4
  t9:=Tryz.underlying9
  a9:=Tryz.isAgg9
  z9:=Tryz.sizeOf9
  v9:=Tryz.zeroValue9 }
open Go.RowKit Go.Lib in
theorem Tryz.strings_HasPrefix (s p : ByteArray) (w : World) :
    Calls Tryz.prog 143 #[.string s,.string p] w fun e w'=>e = .returned (.bool (Lib.hasPrefix s.data.toList p.data.toList)) ∧ w' = w:=Any.strings_HasPrefix Tryz.lays99 s p w
def Tryz.lays208_ren : Go.Shelf.Ren:=⟨fun|208=>181|206=>165|n=>n,fun|9=>9|4=>4|3=>3|n=>n,fun|n=>n⟩
theorem Tryz.lays208 : Go.Proofs.Lays.n208 Tryz.prog Tryz.lays208_ren:={
  mixed:=by kernel_rfl
  f206:=Tryz.func165.trans (congrArg some (by kernel_rfl))
  f208:=Tryz.func181.trans (congrArg some (by kernel_rfl))
  t3:=Tryz.underlying3
  a3:=Tryz.isAgg3
  z3:=Tryz.sizeOf3
  v3:=Tryz.zeroValue3
  t4:=Tryz.underlying4
  a4:=Tryz.isAgg4
  z4:=Tryz.sizeOf4
  v4:=Tryz.zeroValue4
  t9:=Tryz.underlying9
  a9:=Tryz.isAgg9
  z9:=Tryz.sizeOf9
  v9:=Tryz.zeroValue9 }
open Go.RowKit Go.Lib in
theorem Tryz.stringslite_TrimPrefix (s p : ByteArray) (w : World) :
    Calls Tryz.prog 181 #[.string s,.string p] w fun e w'=>e = .returned (.string ⟨(Lib.trimPrefix s.data.toList p.data.toList).toArray⟩) ∧ w' = w:=Any.stringslite_TrimPrefix Tryz.lays208 s p w
def Tryz.lays101_ren : Go.Shelf.Ren:=⟨fun|101=>167|208=>181|206=>165|n=>n,fun|9=>9|4=>4|3=>3|n=>n,fun|n=>n⟩
theorem Tryz.lays101 : Go.Proofs.Lays.n101 Tryz.prog Tryz.lays101_ren:={
  mixed:=by kernel_rfl
  f101:=Tryz.func167.trans (congrArg some (by kernel_rfl))
  f206:=Tryz.func165.trans (congrArg some (by kernel_rfl))
  f208:=Tryz.func181.trans (congrArg some (by kernel_rfl))
  t3:=Tryz.underlying3
  a3:=Tryz.isAgg3
  z3:=Tryz.sizeOf3
  v3:=Tryz.zeroValue3
  t4:=Tryz.underlying4
  a4:=Tryz.isAgg4
  z4:=Tryz.sizeOf4
  v4:=Tryz.zeroValue4
  t9:=Tryz.underlying9
  a9:=Tryz.isAgg9
  z9:=Tryz.sizeOf9
  v9:=Tryz.zeroValue9 }
open Go.RowKit Go.Lib in
theorem Tryz.strings_TrimPrefix (s p : ByteArray) (w : World) :
    Calls Tryz.prog 167 #[.string s,.string p] w fun e w'=>e = .returned (.string ⟨(Lib.trimPrefix s.data.toList p.data.toList).toArray⟩) ∧ w' = w:=Any.strings_TrimPrefix Tryz.lays101 s p w
open Go.RowKit Go.Lib in
theorem Tryz.strings_Count_any (s sep : ByteArray) (m : Int) (w : World) (hs : s.size < 4294967281) (hm : w.cell? ⟨0,0,none⟩ = some (.int .i64 m)) (h1 : 1 ≤ sep.size) :
    Calls Tryz.prog 190 #[.string s,.string sep] w fun e w'=>e = .returned (.int .i64 (Lib.countB s sep)) ∧ w' = w:=Any.strings_Count_any Tryz.lays138 s sep m w hs hm h1
def Tryz.lays221_ren : Go.Shelf.Ren:=⟨fun|221=>183|268=>189|138=>190|143=>157|195=>193|197=>178|218=>194|219=>156|260=>186|217=>173|225=>174|224=>175|267=>176|266=>184|314=>185|n=>n,fun|9=>9|3=>3|31=>155|4=>4|0=>0|105=>251|21=>21|5=>5|46=>250|119=>261|139=>264|138=>263|146=>257|51=>256|n=>n,fun|1=>0|3=>1|4=>2|n=>n⟩
theorem Tryz.lays221 : Go.Proofs.Lays.n221 Tryz.prog Tryz.lays221_ren:={
  mixed:=by kernel_rfl
  f138:=Tryz.func190.trans (congrArg some (by kernel_rfl))
  f143:=Tryz.func157.trans (congrArg some (by kernel_rfl))
  f195:=Tryz.func193.trans (congrArg some (by kernel_rfl))
  f197:=Tryz.func178.trans (congrArg some (by kernel_rfl))
  f217:=Tryz.func173.trans (congrArg some (by kernel_rfl))
  f218:=Tryz.func194.trans (congrArg some (by kernel_rfl))
  f219:=Tryz.func156.trans (congrArg some (by kernel_rfl))
  f221:=Tryz.func183.trans (congrArg some (by kernel_rfl))
  f224:=Tryz.func175.trans (congrArg some (by kernel_rfl))
  f225:=Tryz.func174.trans (congrArg some (by kernel_rfl))
  f260:=Tryz.func186.trans (congrArg some (by kernel_rfl))
  f266:=Tryz.func184.trans (congrArg some (by kernel_rfl))
  f267:=Tryz.func176.trans (congrArg some (by kernel_rfl))
  f268:=Tryz.func189.trans (congrArg some (by kernel_rfl))
  f314:=Tryz.func185.trans (congrArg some (by kernel_rfl))
  t0:=Tryz.underlying0
  a0:=Tryz.isAgg0
  z0:=Tryz.sizeOf0
  v0:=Tryz.zeroValue0
  t3:=Tryz.underlying3
  a3:=Tryz.isAgg3
  z3:=Tryz.sizeOf3
  v3:=Tryz.zeroValue3
  t4:=Tryz.underlying4
  a4:=Tryz.isAgg4
  z4:=Tryz.sizeOf4
  v4:=Tryz.zeroValue4
  t5:=Tryz.underlying5
  a5:=Tryz.isAgg5
  z5:=Tryz.sizeOf5
  v5:=Tryz.zeroValue5
  t9:=Tryz.underlying9
  a9:=Tryz.isAgg9
  z9:=Tryz.sizeOf9
  v9:=Tryz.zeroValue9
  t21:=Tryz.underlying21
  a21:=Tryz.isAgg21
  z21:=Tryz.sizeOf21
  v21:=Tryz.zeroValue21
  t31:=Tryz.underlying155
  a31:=Tryz.isAgg155
  z31:=Tryz.sizeOf155
  v31:=Tryz.zeroValue155
  t46:=Tryz.underlying250
  a46:=Tryz.isAgg250
  z46:=Tryz.sizeOf250
  v46:=Tryz.zeroValue250
  t51:=Tryz.underlying256
  a51:=Tryz.isAgg256
  z51:=Tryz.sizeOf256
  v51:=Tryz.zeroValue256
  t105:=Tryz.underlying251
  a105:=Tryz.isAgg251
  z105:=Tryz.sizeOf251
  v105:=Tryz.zeroValue251
  t119:=Tryz.underlying261
  a119:=Tryz.isAgg261
  z119:=Tryz.sizeOf261
  t138:=Tryz.underlying263
  a138:=Tryz.isAgg263
  z138:=Tryz.sizeOf263
  v138:=Tryz.zeroValue263
  t139:=Tryz.underlying264
  a139:=Tryz.isAgg264
  z139:=Tryz.sizeOf264
  v139:=Tryz.zeroValue264
  t146:=Tryz.underlying257
  a146:=Tryz.isAgg257
  z146:=Tryz.sizeOf257
  v146:=Tryz.zeroValue257
  g1:=by kernel_rfl
  g3:=by kernel_rfl
  g4:=by kernel_rfl }
open Go.RowKit Go.Lib in
theorem Tryz.strings_genSplit (s sep : ByteArray) (sv : Nat) (n : Int) (N : Nat) (m : Int) (w : World) (hs : s.size < 4294967281) (hm : w.cell? ⟨0,0,none⟩ = some (.int .i64 m)) (h1 : 1 ≤ sep.size) (hsv : sv ≤ sep.size) (hn0 : n ≠ 0) (hn63 : n ≤ 9223372036854775807) (hN : (N : Int) = min (if n < 0 then (Lib.countB s sep : Int) + 1 else n) ((s.size : Int) + 1)) :
    Calls Tryz.prog 183 #[.string s,.string sep,.int .i64 sv,.int .i64 n] w fun e w' =>
      e = .returned (.slice (some ⟨w.heap.size,0,none⟩) (Lib.splitB sep sv (N - 1) s).length N) ∧ w' = w.alloc (.cells (Lib.cellsOf (Lib.splitB sep sv (N - 1) s) N) 9):=Any.strings_genSplit Tryz.lays221 (by kernel_rfl) s sep sv n N m w hs hm h1 hsv hn0 hn63 hN
def Tryz.lays146_ren : Go.Shelf.Ren:=⟨fun|146=>170|221=>183|268=>189|138=>190|143=>157|195=>193|197=>178|218=>194|219=>156|260=>186|217=>173|225=>174|224=>175|267=>176|266=>184|314=>185|n=>n,fun|9=>9|31=>155|3=>3|4=>4|0=>0|105=>251|21=>21|5=>5|46=>250|119=>261|139=>264|138=>263|146=>257|51=>256|n=>n,fun|1=>0|3=>1|4=>2|n=>n⟩
theorem Tryz.lays146 : Go.Proofs.Lays.n146 Tryz.prog Tryz.lays146_ren:={
  mixed:=by kernel_rfl
  f138:=Tryz.func190.trans (congrArg some (by kernel_rfl))
  f143:=Tryz.func157.trans (congrArg some (by kernel_rfl))
  f146:=Tryz.func170.trans (congrArg some (by kernel_rfl))
  f195:=Tryz.func193.trans (congrArg some (by kernel_rfl))
  f197:=Tryz.func178.trans (congrArg some (by kernel_rfl))
  f217:=Tryz.func173.trans (congrArg some (by kernel_rfl))
  f218:=Tryz.func194.trans (congrArg some (by kernel_rfl))
  f219:=Tryz.func156.trans (congrArg some (by kernel_rfl))
  f221:=Tryz.func183.trans (congrArg some (by kernel_rfl))
  f224:=Tryz.func175.trans (congrArg some (by kernel_rfl))
  f225:=Tryz.func174.trans (congrArg some (by kernel_rfl))
  f260:=Tryz.func186.trans (congrArg some (by kernel_rfl))
  f266:=Tryz.func184.trans (congrArg some (by kernel_rfl))
  f267:=Tryz.func176.trans (congrArg some (by kernel_rfl))
  f268:=Tryz.func189.trans (congrArg some (by kernel_rfl))
  f314:=Tryz.func185.trans (congrArg some (by kernel_rfl))
  t0:=Tryz.underlying0
  a0:=Tryz.isAgg0
  z0:=Tryz.sizeOf0
  v0:=Tryz.zeroValue0
  t3:=Tryz.underlying3
  a3:=Tryz.isAgg3
  z3:=Tryz.sizeOf3
  v3:=Tryz.zeroValue3
  t4:=Tryz.underlying4
  a4:=Tryz.isAgg4
  z4:=Tryz.sizeOf4
  v4:=Tryz.zeroValue4
  t5:=Tryz.underlying5
  a5:=Tryz.isAgg5
  z5:=Tryz.sizeOf5
  v5:=Tryz.zeroValue5
  t9:=Tryz.underlying9
  a9:=Tryz.isAgg9
  z9:=Tryz.sizeOf9
  v9:=Tryz.zeroValue9
  t21:=Tryz.underlying21
  a21:=Tryz.isAgg21
  z21:=Tryz.sizeOf21
  v21:=Tryz.zeroValue21
  t31:=Tryz.underlying155
  a31:=Tryz.isAgg155
  z31:=Tryz.sizeOf155
  v31:=Tryz.zeroValue155
  t46:=Tryz.underlying250
  a46:=Tryz.isAgg250
  z46:=Tryz.sizeOf250
  v46:=Tryz.zeroValue250
  t51:=Tryz.underlying256
  a51:=Tryz.isAgg256
  z51:=Tryz.sizeOf256
  v51:=Tryz.zeroValue256
  t105:=Tryz.underlying251
  a105:=Tryz.isAgg251
  z105:=Tryz.sizeOf251
  v105:=Tryz.zeroValue251
  t119:=Tryz.underlying261
  a119:=Tryz.isAgg261
  z119:=Tryz.sizeOf261
  t138:=Tryz.underlying263
  a138:=Tryz.isAgg263
  z138:=Tryz.sizeOf263
  v138:=Tryz.zeroValue263
  t139:=Tryz.underlying264
  a139:=Tryz.isAgg264
  z139:=Tryz.sizeOf264
  v139:=Tryz.zeroValue264
  t146:=Tryz.underlying257
  a146:=Tryz.isAgg257
  z146:=Tryz.sizeOf257
  v146:=Tryz.zeroValue257
  g1:=by kernel_rfl
  g3:=by kernel_rfl
  g4:=by kernel_rfl }
open Go.RowKit Go.Lib in
theorem Tryz.strings_Split (s sep : ByteArray) (m : Int) (w : World) (hs : s.size < 4294967281) (hm : w.cell? ⟨0,0,none⟩ = some (.int .i64 m)) (h1 : 1 ≤ sep.size) :
    Calls Tryz.prog 170 #[.string s,.string sep] w fun e w' =>
      e = .returned (.slice (some ⟨w.heap.size,0,none⟩) (Lib.countB s sep + 1) (Lib.countB s sep + 1)) ∧ w' = w.alloc (.cells ((Lib.splitB sep 0 (Lib.countB s sep) s).map Value.string).toArray 9):=Any.strings_Split Tryz.lays146 (by kernel_rfl) s sep m w hs hm h1
def Tryz.laysM146_ren : Go.Shelf.Ren:=⟨fun|146=>170|221=>183|268=>189|138=>190|143=>157|195=>193|197=>178|218=>194|219=>156|260=>186|217=>173|225=>174|224=>175|267=>176|266=>184|314=>185|n=>n,fun|9=>9|31=>155|3=>3|4=>4|0=>0|105=>251|21=>21|5=>5|46=>250|119=>261|139=>264|138=>263|146=>257|51=>256|n=>n,fun|1=>0|3=>1|4=>2|n=>n⟩
theorem Tryz.laysM146 : Go.Proofs.LaysM.n146 Tryz.prog Tryz.laysM146_ren:={
  mixed:=by kernel_rfl
  f138:=Tryz.func190.trans (congrArg some (by kernel_rfl))
  f143:=Tryz.func157.trans (congrArg some (by kernel_rfl))
  f146:=Tryz.func170.trans (congrArg some (by kernel_rfl))
  f195:=Tryz.func193.trans (congrArg some (by kernel_rfl))
  f197:=Tryz.func178.trans (congrArg some (by kernel_rfl))
  f217:=Tryz.func173.trans (congrArg some (by kernel_rfl))
  f218:=Tryz.func194.trans (congrArg some (by kernel_rfl))
  f219:=Tryz.func156.trans (congrArg some (by kernel_rfl))
  f221:=Tryz.func183.trans (congrArg some (by kernel_rfl))
  f224:=Tryz.func175.trans (congrArg some (by kernel_rfl))
  f225:=Tryz.func174.trans (congrArg some (by kernel_rfl))
  f260:=Tryz.func186.trans (congrArg some (by kernel_rfl))
  f266:=Tryz.func184.trans (congrArg some (by kernel_rfl))
  f267:=Tryz.func176.trans (congrArg some (by kernel_rfl))
  f268:=Tryz.func189.trans (congrArg some (by kernel_rfl))
  f314:=Tryz.func185.trans (congrArg some (by kernel_rfl))
  t0:=Tryz.underlying0
  a0:=Tryz.isAgg0
  z0:=Tryz.sizeOf0
  v0:=Tryz.zeroValue0
  t3:=Tryz.underlying3
  a3:=Tryz.isAgg3
  z3:=Tryz.sizeOf3
  v3:=Tryz.zeroValue3
  t4:=Tryz.underlying4
  a4:=Tryz.isAgg4
  z4:=Tryz.sizeOf4
  v4:=Tryz.zeroValue4
  t5:=Tryz.underlying5
  a5:=Tryz.isAgg5
  z5:=Tryz.sizeOf5
  v5:=Tryz.zeroValue5
  t9:=Tryz.underlying9
  a9:=Tryz.isAgg9
  z9:=Tryz.sizeOf9
  v9:=Tryz.zeroValue9
  t21:=Tryz.underlying21
  a21:=Tryz.isAgg21
  z21:=Tryz.sizeOf21
  v21:=Tryz.zeroValue21
  t31:=Tryz.underlying155
  a31:=Tryz.isAgg155
  z31:=Tryz.sizeOf155
  v31:=Tryz.zeroValue155
  t46:=Tryz.underlying250
  a46:=Tryz.isAgg250
  z46:=Tryz.sizeOf250
  v46:=Tryz.zeroValue250
  t51:=Tryz.underlying256
  a51:=Tryz.isAgg256
  z51:=Tryz.sizeOf256
  v51:=Tryz.zeroValue256
  t105:=Tryz.underlying251
  a105:=Tryz.isAgg251
  z105:=Tryz.sizeOf251
  v105:=Tryz.zeroValue251
  t119:=Tryz.underlying261
  a119:=Tryz.isAgg261
  z119:=Tryz.sizeOf261
  t138:=Tryz.underlying263
  a138:=Tryz.isAgg263
  z138:=Tryz.sizeOf263
  v138:=Tryz.zeroValue263
  t139:=Tryz.underlying264
  a139:=Tryz.isAgg264
  z139:=Tryz.sizeOf264
  v139:=Tryz.zeroValue264
  t146:=Tryz.underlying257
  a146:=Tryz.isAgg257
  z146:=Tryz.sizeOf257
  v146:=Tryz.zeroValue257
  g1:=by kernel_rfl
  g3:=by kernel_rfl
  g4:=by kernel_rfl
  i0:=by kernel_rfl
  i3:=by kernel_rfl
  i4:=by kernel_rfl
  i5:=by kernel_rfl
  i9:=by kernel_rfl
  i21:=by kernel_rfl
  i31:=by kernel_rfl
  i46:=by kernel_rfl
  i51:=by kernel_rfl
  i105:=by kernel_rfl
  i138:=by kernel_rfl
  i139:=by kernel_rfl
  i146:=by kernel_rfl
  m1:=by kernel_rfl
  s1_3:=fun w h=>Go.Proofs.cell_of_shapedOpen_int (zero:=#[.int .i64 0]) (t:=3) h (of_decide_eq_true (by kernel_rfl)) (by kernel_rfl) rfl (by kernel_rfl) (by kernel_rfl) Tryz.underlying3
  m3:=by kernel_rfl
  m4:=by kernel_rfl }
open Go.RowKit Go.Lib in
theorem Tryz.strings_Split_shaped (s sep : ByteArray) (w : World) (h : w.ShapedOpen Tryz.prog) (hs : s.size < 4294967281) (h1 : 1 ≤ sep.size) :
    Calls Tryz.prog 170 #[.string s,.string sep] w fun e w' =>
      e = .returned (.slice (some ⟨w.heap.size,0,none⟩) (Lib.countB s sep + 1) (Lib.countB s sep + 1)) ∧ w' = w.alloc (.cells ((Lib.splitB sep 0 (Lib.countB s sep) s).map Value.string).toArray 9):=Any.strings_Split_shaped Tryz.laysM146 s sep w h hs h1
def Tryz.lays197_ren : Go.Shelf.Ren:=⟨fun|197=>178|260=>186|n=>n,fun|9=>9|21=>21|3=>3|4=>4|5=>5|105=>251|119=>261|0=>0|46=>250|139=>264|138=>263|n=>n,fun|3=>1|4=>2|n=>n⟩
theorem Tryz.lays197 : Go.Proofs.Lays.n197 Tryz.prog Tryz.lays197_ren:={
  mixed:=by kernel_rfl
  f197:=Tryz.func178.trans (congrArg some (by kernel_rfl))
  f260:=Tryz.func186.trans (congrArg some (by kernel_rfl))
  t0:=Tryz.underlying0
  a0:=Tryz.isAgg0
  z0:=Tryz.sizeOf0
  v0:=Tryz.zeroValue0
  t3:=Tryz.underlying3
  a3:=Tryz.isAgg3
  z3:=Tryz.sizeOf3
  v3:=Tryz.zeroValue3
  t4:=Tryz.underlying4
  a4:=Tryz.isAgg4
  z4:=Tryz.sizeOf4
  v4:=Tryz.zeroValue4
  t5:=Tryz.underlying5
  a5:=Tryz.isAgg5
  z5:=Tryz.sizeOf5
  v5:=Tryz.zeroValue5
  t9:=Tryz.underlying9
  a9:=Tryz.isAgg9
  z9:=Tryz.sizeOf9
  v9:=Tryz.zeroValue9
  t21:=Tryz.underlying21
  a21:=Tryz.isAgg21
  z21:=Tryz.sizeOf21
  v21:=Tryz.zeroValue21
  t46:=Tryz.underlying250
  a46:=Tryz.isAgg250
  z46:=Tryz.sizeOf250
  v46:=Tryz.zeroValue250
  t105:=Tryz.underlying251
  a105:=Tryz.isAgg251
  z105:=Tryz.sizeOf251
  v105:=Tryz.zeroValue251
  t119:=Tryz.underlying261
  a119:=Tryz.isAgg261
  z119:=Tryz.sizeOf261
  t138:=Tryz.underlying263
  a138:=Tryz.isAgg263
  z138:=Tryz.sizeOf263
  v138:=Tryz.zeroValue263
  t139:=Tryz.underlying264
  a139:=Tryz.isAgg264
  z139:=Tryz.sizeOf264
  v139:=Tryz.zeroValue264
  g3:=by kernel_rfl
  g4:=by kernel_rfl }
open Go.RowKit Go.Lib in
theorem Tryz.utf8_DecodeRuneInString_ascii (s : ByteArray) (x : UInt8) (w : World) (h0 : s.data.toList[0]? = some x) (hx : x.toNat < 128) :
    Calls Tryz.prog 178 #[.string s] w fun e w'=>e = .returned (.tuple #[.int .i32 x.toNat,.int .i64 1]) ∧ w' = w:=Any.utf8_DecodeRuneInString_ascii Tryz.lays197 s x w h0 hx
def Tryz.lays152_ren : Go.Shelf.Ren:=⟨fun|152=>187|137=>191|119=>192|224=>175|225=>174|217=>173|266=>184|n=>n,fun|9=>9|21=>21|3=>3|4=>4|5=>5|0=>0|46=>250|n=>n,fun|n=>n⟩
theorem Tryz.lays152 : Go.Proofs.Lays.n152 Tryz.prog Tryz.lays152_ren:={
  mixed:=by kernel_rfl
  f119:=Tryz.func192.trans (congrArg some (by kernel_rfl))
  f137:=Tryz.func191.trans (congrArg some (by kernel_rfl))
  f152:=Tryz.func187.trans (congrArg some (by kernel_rfl))
  f217:=Tryz.func173.trans (congrArg some (by kernel_rfl))
  f224:=Tryz.func175.trans (congrArg some (by kernel_rfl))
  f225:=Tryz.func174.trans (congrArg some (by kernel_rfl))
  f266:=Tryz.func184.trans (congrArg some (by kernel_rfl))
  t0:=Tryz.underlying0
  a0:=Tryz.isAgg0
  z0:=Tryz.sizeOf0
  v0:=Tryz.zeroValue0
  t3:=Tryz.underlying3
  a3:=Tryz.isAgg3
  z3:=Tryz.sizeOf3
  v3:=Tryz.zeroValue3
  t4:=Tryz.underlying4
  a4:=Tryz.isAgg4
  z4:=Tryz.sizeOf4
  v4:=Tryz.zeroValue4
  t5:=Tryz.underlying5
  a5:=Tryz.isAgg5
  z5:=Tryz.sizeOf5
  v5:=Tryz.zeroValue5
  t9:=Tryz.underlying9
  a9:=Tryz.isAgg9
  z9:=Tryz.sizeOf9
  v9:=Tryz.zeroValue9
  t21:=Tryz.underlying21
  a21:=Tryz.isAgg21
  z21:=Tryz.sizeOf21
  v21:=Tryz.zeroValue21
  t46:=Tryz.underlying250
  a46:=Tryz.isAgg250
  z46:=Tryz.sizeOf250
  v46:=Tryz.zeroValue250 }
open Go.RowKit Go.Lib in
theorem Tryz.strings_IndexRune_ascii (s : ByteArray) (r : Int) (w : World) (h0 : 0 ≤ r) (h1 : r < 128) :
    Calls Tryz.prog 187 #[.string s,.int .i32 r] w fun e w'=>e = .returned (.int .i64 (Lib.indexByte s.data.toList r.toNat.toUInt8)) ∧ w' = w:=Any.strings_IndexRune_ascii Tryz.lays152 s r w h0 h1
def Tryz.lays151_ren : Go.Shelf.Ren:=⟨fun|151=>179|152=>187|137=>191|119=>192|224=>175|225=>174|217=>173|266=>184|n=>n,fun|9=>9|21=>21|4=>4|3=>3|5=>5|0=>0|46=>250|n=>n,fun|n=>n⟩
theorem Tryz.lays151 : Go.Proofs.Lays.n151 Tryz.prog Tryz.lays151_ren:={
  mixed:=by kernel_rfl
  f119:=Tryz.func192.trans (congrArg some (by kernel_rfl))
  f137:=Tryz.func191.trans (congrArg some (by kernel_rfl))
  f151:=Tryz.func179.trans (congrArg some (by kernel_rfl))
  f152:=Tryz.func187.trans (congrArg some (by kernel_rfl))
  f217:=Tryz.func173.trans (congrArg some (by kernel_rfl))
  f224:=Tryz.func175.trans (congrArg some (by kernel_rfl))
  f225:=Tryz.func174.trans (congrArg some (by kernel_rfl))
  f266:=Tryz.func184.trans (congrArg some (by kernel_rfl))
  t0:=Tryz.underlying0
  a0:=Tryz.isAgg0
  z0:=Tryz.sizeOf0
  v0:=Tryz.zeroValue0
  t3:=Tryz.underlying3
  a3:=Tryz.isAgg3
  z3:=Tryz.sizeOf3
  v3:=Tryz.zeroValue3
  t4:=Tryz.underlying4
  a4:=Tryz.isAgg4
  z4:=Tryz.sizeOf4
  v4:=Tryz.zeroValue4
  t5:=Tryz.underlying5
  a5:=Tryz.isAgg5
  z5:=Tryz.sizeOf5
  v5:=Tryz.zeroValue5
  t9:=Tryz.underlying9
  a9:=Tryz.isAgg9
  z9:=Tryz.sizeOf9
  v9:=Tryz.zeroValue9
  t21:=Tryz.underlying21
  a21:=Tryz.isAgg21
  z21:=Tryz.sizeOf21
  v21:=Tryz.zeroValue21
  t46:=Tryz.underlying250
  a46:=Tryz.isAgg250
  z46:=Tryz.sizeOf250
  v46:=Tryz.zeroValue250 }
open Go.RowKit Go.Lib in
theorem Tryz.strings_ContainsRune_ascii (s : ByteArray) (r : Int) (w : World) (h0 : 0 ≤ r) (h1 : r < 128) :
    Calls Tryz.prog 179 #[.string s,.int .i32 r] w fun e w'=>e = .returned (.bool (decide (0 ≤ Lib.indexByte s.data.toList r.toNat.toUInt8))) ∧ w' = w:=Any.strings_ContainsRune_ascii Tryz.lays151 s r w h0 h1
open Go.RowKit Go.Lib in
theorem Tryz.utf8_RuneCountInString_ascii (s : ByteArray) (w : World) (hs : s.size < 4294967281) (hascii : ∀ (j : Nat) b,s.data.toList[j]? = some b → b.toNat < 128) :
    Calls Tryz.prog 193 #[.string s] w fun e w'=>e = .returned (.int .i64 s.size) ∧ w' = w.iter s s.size:=Any.utf8_RuneCountInString_ascii Tryz.lays195 s w hs hascii
def Tryz.lays227_ren : Go.Shelf.Ren:=⟨fun|227=>160|n=>n,fun|9=>9|116=>239|4=>4|0=>0|3=>3|5=>5|n=>n,fun|n=>n⟩
theorem Tryz.lays227 : Go.Proofs.Lays.n227 Tryz.prog Tryz.lays227_ren:={
  mixed:=by kernel_rfl
  f227:=Tryz.func160.trans (congrArg some (by kernel_rfl))
  t0:=Tryz.underlying0
  a0:=Tryz.isAgg0
  z0:=Tryz.sizeOf0
  v0:=Tryz.zeroValue0
  t3:=Tryz.underlying3
  a3:=Tryz.isAgg3
  z3:=Tryz.sizeOf3
  v3:=Tryz.zeroValue3
  t4:=Tryz.underlying4
  a4:=Tryz.isAgg4
  z4:=Tryz.sizeOf4
  v4:=Tryz.zeroValue4
  t5:=Tryz.underlying5
  a5:=Tryz.isAgg5
  z5:=Tryz.sizeOf5
  v5:=Tryz.zeroValue5
  t9:=Tryz.underlying9
  a9:=Tryz.isAgg9
  z9:=Tryz.sizeOf9
  v9:=Tryz.zeroValue9
  t116:=Tryz.underlying239
  a116:=Tryz.isAgg239
  z116:=Tryz.sizeOf239 }
open Go.RowKit Go.Lib in
theorem Tryz.strings_makeASCIISet (hv116 : ∀ w,(zeroValue 239).run Tryz.prog w = .ok (.agg (Array.replicate 256 (.bool false))) w) (chars : ByteArray) (w : World) (hs : chars.size < 4294967281) (hascii : ∀ (j : Nat) b,chars.data.toList[j]? = some b → b.toNat < 128) :
    Calls Tryz.prog 160 #[.string chars] w fun e w'=>e = .returned (.tuple #[.agg (Lib.setCells chars.data.toList),.bool true]) ∧ w' = w.alloc (.cells (Lib.setCells chars.data.toList) 239):=Any.strings_makeASCIISet Tryz.lays227 hv116 (by kernel_rfl) chars w hs hascii
def Tryz.lays228_ren : Go.Shelf.Ren:=⟨fun|228=>177|n=>n,fun|124=>243|5=>5|4=>4|0=>0|116=>239|n=>n,fun|n=>n⟩
theorem Tryz.lays228 : Go.Proofs.Lays.n228 Tryz.prog Tryz.lays228_ren:={
  mixed:=by kernel_rfl
  f228:=Tryz.func177.trans (congrArg some (by kernel_rfl))
  t0:=Tryz.underlying0
  a0:=Tryz.isAgg0
  z0:=Tryz.sizeOf0
  v0:=Tryz.zeroValue0
  t4:=Tryz.underlying4
  a4:=Tryz.isAgg4
  z4:=Tryz.sizeOf4
  v4:=Tryz.zeroValue4
  t5:=Tryz.underlying5
  a5:=Tryz.isAgg5
  z5:=Tryz.sizeOf5
  v5:=Tryz.zeroValue5
  t116:=Tryz.underlying239
  a116:=Tryz.isAgg239
  z116:=Tryz.sizeOf239
  t124:=Tryz.underlying243
  a124:=Tryz.isAgg243
  z124:=Tryz.sizeOf243
  v124:=Tryz.zeroValue243 }
open Go.RowKit Go.Lib in
theorem Tryz.asciiSet_contains (b : Nat) (x : UInt8) (v : Bool) (w : World) (hc : w.cell? ⟨b,x.toNat,none⟩ = some (.bool v)) :
    Calls Tryz.prog 177 #[.pointer (some ⟨b,0,none⟩),.int .u8 x.toNat] w fun e w'=>e = .returned (.bool v) ∧ w' = w:=Any.asciiSet_contains Tryz.lays228 b x v w hc
def Tryz.lays268_ren : Go.Shelf.Ren:=⟨fun|268=>189|195=>193|197=>178|260=>186|n=>n,fun|9=>9|3=>3|31=>155|4=>4|105=>251|21=>21|0=>0|5=>5|119=>261|46=>250|139=>264|138=>263|n=>n,fun|3=>1|4=>2|n=>n⟩
theorem Tryz.lays268 : Go.Proofs.Lays.n268 Tryz.prog Tryz.lays268_ren:={
  mixed:=by kernel_rfl
  f195:=Tryz.func193.trans (congrArg some (by kernel_rfl))
  f197:=Tryz.func178.trans (congrArg some (by kernel_rfl))
  f260:=Tryz.func186.trans (congrArg some (by kernel_rfl))
  f268:=Tryz.func189.trans (congrArg some (by kernel_rfl))
  t0:=Tryz.underlying0
  a0:=Tryz.isAgg0
  z0:=Tryz.sizeOf0
  v0:=Tryz.zeroValue0
  t3:=Tryz.underlying3
  a3:=Tryz.isAgg3
  z3:=Tryz.sizeOf3
  v3:=Tryz.zeroValue3
  t4:=Tryz.underlying4
  a4:=Tryz.isAgg4
  z4:=Tryz.sizeOf4
  v4:=Tryz.zeroValue4
  t5:=Tryz.underlying5
  a5:=Tryz.isAgg5
  z5:=Tryz.sizeOf5
  v5:=Tryz.zeroValue5
  t9:=Tryz.underlying9
  a9:=Tryz.isAgg9
  z9:=Tryz.sizeOf9
  v9:=Tryz.zeroValue9
  t21:=Tryz.underlying21
  a21:=Tryz.isAgg21
  z21:=Tryz.sizeOf21
  v21:=Tryz.zeroValue21
  t31:=Tryz.underlying155
  a31:=Tryz.isAgg155
  z31:=Tryz.sizeOf155
  v31:=Tryz.zeroValue155
  t46:=Tryz.underlying250
  a46:=Tryz.isAgg250
  z46:=Tryz.sizeOf250
  v46:=Tryz.zeroValue250
  t105:=Tryz.underlying251
  a105:=Tryz.isAgg251
  z105:=Tryz.sizeOf251
  v105:=Tryz.zeroValue251
  t119:=Tryz.underlying261
  a119:=Tryz.isAgg261
  z119:=Tryz.sizeOf261
  t138:=Tryz.underlying263
  a138:=Tryz.isAgg263
  z138:=Tryz.sizeOf263
  v138:=Tryz.zeroValue263
  t139:=Tryz.underlying264
  a139:=Tryz.isAgg264
  z139:=Tryz.sizeOf264
  v139:=Tryz.zeroValue264
  g3:=by kernel_rfl
  g4:=by kernel_rfl }
open Go.RowKit Go.Lib in
theorem Tryz.strings_explode_all (s : ByteArray) (n : Int) (w : World) (hn : n < 0) (hs : s.size < 4294967281) (hascii : ∀ (j : Nat) b,s.data.toList[j]? = some b → b.toNat < 128) :
    Calls Tryz.prog 189 #[.string s,.int .i64 n] w fun e w' =>
      e = .returned (.slice (some ⟨(w.iter s s.size).heap.size,0,none⟩) s.size s.size) ∧ w' = (w.iter s s.size).alloc (.cells ((Lib.charsB s).map Value.string).toArray 9):=Any.strings_explode_all Tryz.lays268 (by kernel_rfl) s n w hn hs hascii
open Go.RowKit Go.Lib in
theorem Tryz.strings_genSplit_chars (s sep : ByteArray) (sv n : Int) (w : World) (h0 : sep.size = 0) (hn : n < 0) (hs : s.size < 4294967281) (hascii : ∀ (j : Nat) b,s.data.toList[j]? = some b → b.toNat < 128) :
    Calls Tryz.prog 183 #[.string s,.string sep,.int .i64 sv,.int .i64 n] w fun e w' =>
      e = .returned (.slice (some ⟨(w.iter s s.size).heap.size,0,none⟩) s.size s.size) ∧ w' = (w.iter s s.size).alloc (.cells ((Lib.charsB s).map Value.string).toArray 9):=Any.strings_genSplit_chars Tryz.lays221 (by kernel_rfl) s sep sv n w h0 hn hs hascii
open Go.RowKit Go.Lib in
theorem Tryz.strings_Split_chars (s sep : ByteArray) (w : World) (h0 : sep.size = 0) (hs : s.size < 4294967281) (hascii : ∀ (j : Nat) b,s.data.toList[j]? = some b → b.toNat < 128) :
    Calls Tryz.prog 170 #[.string s,.string sep] w fun e w' =>
      e = .returned (.slice (some ⟨(w.iter s s.size).heap.size,0,none⟩) s.size s.size) ∧ w' = (w.iter s s.size).alloc (.cells ((Lib.charsB s).map Value.string).toArray 9):=Any.strings_Split_chars Tryz.lays146 (by kernel_rfl) s sep w h0 hs hascii
def Tryz.lays260_ren : Go.Shelf.Ren:=⟨fun|260=>186|n=>n,fun|9=>9|21=>21|3=>3|4=>4|5=>5|119=>261|0=>0|46=>250|139=>264|138=>263|n=>n,fun|3=>1|4=>2|n=>n⟩
theorem Tryz.lays260 : Go.Proofs.Lays.n260 Tryz.prog Tryz.lays260_ren:={
  mixed:=by kernel_rfl
  f260:=Tryz.func186.trans (congrArg some (by kernel_rfl))
  t0:=Tryz.underlying0
  a0:=Tryz.isAgg0
  z0:=Tryz.sizeOf0
  v0:=Tryz.zeroValue0
  t3:=Tryz.underlying3
  a3:=Tryz.isAgg3
  z3:=Tryz.sizeOf3
  v3:=Tryz.zeroValue3
  t4:=Tryz.underlying4
  a4:=Tryz.isAgg4
  z4:=Tryz.sizeOf4
  v4:=Tryz.zeroValue4
  t5:=Tryz.underlying5
  a5:=Tryz.isAgg5
  z5:=Tryz.sizeOf5
  v5:=Tryz.zeroValue5
  t9:=Tryz.underlying9
  a9:=Tryz.isAgg9
  z9:=Tryz.sizeOf9
  v9:=Tryz.zeroValue9
  t21:=Tryz.underlying21
  a21:=Tryz.isAgg21
  z21:=Tryz.sizeOf21
  v21:=Tryz.zeroValue21
  t46:=Tryz.underlying250
  a46:=Tryz.isAgg250
  z46:=Tryz.sizeOf250
  v46:=Tryz.zeroValue250
  t119:=Tryz.underlying261
  a119:=Tryz.isAgg261
  z119:=Tryz.sizeOf261
  t138:=Tryz.underlying263
  a138:=Tryz.isAgg263
  z138:=Tryz.sizeOf263
  v138:=Tryz.zeroValue263
  t139:=Tryz.underlying264
  a139:=Tryz.isAgg264
  z139:=Tryz.sizeOf264
  v139:=Tryz.zeroValue264
  g3:=by kernel_rfl
  g4:=by kernel_rfl }
open Go.RowKit Go.Lib in
theorem Tryz.utf8_decodeRuneInStringSlow (s : ByteArray) (w : World) (hT : Lib.Utf8Tabs 1 2 w) :
    Calls Tryz.prog 186 #[.string s] w fun e w'=>e = .returned (.tuple #[.int .i32 (Lib.decodeGo s).1,.int .i64 (Lib.decodeGo s).2]) ∧ Below w.heap.size w w':=Any.utf8_decodeRuneInStringSlow Tryz.lays260 s w hT
open Go.RowKit Go.Lib in
theorem Tryz.utf8_DecodeRuneInString (s : ByteArray) (w : World) (hT : Lib.Utf8Tabs 1 2 w) :
    Calls Tryz.prog 178 #[.string s] w fun e w'=>e = .returned (.tuple #[.int .i32 (Lib.decodeGo s).1,.int .i64 (Lib.decodeGo s).2]) ∧ Below w.heap.size w w':=Any.utf8_DecodeRuneInString Tryz.lays197 s w hT
def Tryz.lays271_ren : Go.Shelf.Ren:=⟨fun|271=>180|120=>188|197=>178|260=>186|n=>n,fun|9=>9|21=>21|3=>3|4=>4|5=>5|105=>251|119=>261|0=>0|46=>250|139=>264|138=>263|n=>n,fun|3=>1|4=>2|n=>n⟩
theorem Tryz.lays271 : Go.Proofs.Lays.n271 Tryz.prog Tryz.lays271_ren:={
  mixed:=by kernel_rfl
  f120:=Tryz.func188.trans (congrArg some (by kernel_rfl))
  f197:=Tryz.func178.trans (congrArg some (by kernel_rfl))
  f260:=Tryz.func186.trans (congrArg some (by kernel_rfl))
  f271:=Tryz.func180.trans (congrArg some (by kernel_rfl))
  t0:=Tryz.underlying0
  a0:=Tryz.isAgg0
  z0:=Tryz.sizeOf0
  v0:=Tryz.zeroValue0
  t3:=Tryz.underlying3
  a3:=Tryz.isAgg3
  z3:=Tryz.sizeOf3
  v3:=Tryz.zeroValue3
  t4:=Tryz.underlying4
  a4:=Tryz.isAgg4
  z4:=Tryz.sizeOf4
  v4:=Tryz.zeroValue4
  t5:=Tryz.underlying5
  a5:=Tryz.isAgg5
  z5:=Tryz.sizeOf5
  v5:=Tryz.zeroValue5
  t9:=Tryz.underlying9
  a9:=Tryz.isAgg9
  z9:=Tryz.sizeOf9
  v9:=Tryz.zeroValue9
  t21:=Tryz.underlying21
  a21:=Tryz.isAgg21
  z21:=Tryz.sizeOf21
  v21:=Tryz.zeroValue21
  t46:=Tryz.underlying250
  a46:=Tryz.isAgg250
  z46:=Tryz.sizeOf250
  v46:=Tryz.zeroValue250
  t105:=Tryz.underlying251
  a105:=Tryz.isAgg251
  z105:=Tryz.sizeOf251
  v105:=Tryz.zeroValue251
  t119:=Tryz.underlying261
  a119:=Tryz.isAgg261
  z119:=Tryz.sizeOf261
  t138:=Tryz.underlying263
  a138:=Tryz.isAgg263
  z138:=Tryz.sizeOf263
  v138:=Tryz.zeroValue263
  t139:=Tryz.underlying264
  a139:=Tryz.isAgg264
  z139:=Tryz.sizeOf264
  v139:=Tryz.zeroValue264
  g3:=by kernel_rfl
  g4:=by kernel_rfl }
open Go.RowKit Go.Lib in
theorem Tryz.utf8_DecodeLastRuneInString (s : ByteArray) (w : World) (hs : s.size ≤ 9223372036854775807) (hT : Lib.Utf8Tabs 1 2 w) :
    Calls Tryz.prog 180 #[.string s] w fun e w'=>e = .returned (.tuple #[.int .i32 (Lib.decodeLastL s.data.toList).1,.int .i64 (Lib.decodeLastL s.data.toList).2]) ∧ Below w.heap.size w w':=Any.utf8_DecodeLastRuneInString Tryz.lays271 s w hs hT
end Go.Proofs
namespace Go.Proofs.YtlbainbjlibfiaaGreatDoor
open Go.RowKit
namespace Ab
theorem acall2 {P : Program} {f : FuncId} {a b u : Value} {r : A} (hfn : FnOk P f) (hr : ∀ ok w,r.rep ok yN w u) (h : ∀ w,GlobCell w → Calls P f #[a,b] w fun e w'=>e = .returned u ∧ Below w.heap.size w w') : qW P f [.one (.lit a),.one (.lit b)] r:=by
  refine ⟨hfn,fun ok w vs hg hvs=>?_⟩;obtain ⟨v,t,rfl,hv,v2,t2,rfl,hv2,ht⟩:=hvs;rw [show t2 = [] from ht,show v = a from hv,show v2 = b from hv2];refine (h w hg.2.2).mono ?_
  rintro e w' ⟨rfl,hb⟩
  exact ⟨_,rfl,hb,hr _ _⟩
theorem same_below {e : Ending} {u : Value} {w w' : World} (h : e = .returned u ∧ w' = w) : e = .returned u ∧ Below w.heap.size w w':=⟨h.1,by rw [h.2];exact Below.refl _ _⟩
theorem hasPrefix_c (s p : ByteArray) : qW Tryz.prog 143 [is s,is p] (ib (Lib.hasPrefix s.data.toList p.data.toList)) :=
  acall2 ⟨_,Tryz.func143,rfl,rfl⟩ (fun _ _=>rfl) fun w _=>(Tryz.strings_HasPrefix s p w).mono fun _ _ h=>same_below h
theorem contains_c (s p : ByteArray) (hs : s.size < 4294967281) : qW Tryz.prog 141 [is s,is p] (ib (Lib.contains s.data.toList p.data.toList)) :=
  acall2 ⟨_,Tryz.func141,rfl,rfl⟩ (fun _ _=>rfl) fun w ⟨m,hm⟩=>(Tryz.strings_Contains s p m w hs hm).mono fun _ _ h=>same_below h
theorem trimPrefix_c (s p : ByteArray) : qW Tryz.prog 167 [is s,is p] (is ⟨(Lib.trimPrefix s.data.toList p.data.toList).toArray⟩) :=
  acall2 ⟨_,Tryz.func167,rfl,rfl⟩ (fun _ _=>rfl) fun w _=>(Tryz.strings_TrimPrefix s p w).mono fun _ _ h=>same_below h
theorem cut_c (s p : ByteArray) (hs : s.size < 4294967281) : qW Tryz.prog 114 [is s,is p] (.tup [(false,[.lit (.string ⟨(Lib.cut s.data.toList p.data.toList).1.toArray⟩)]),(false,[.lit (.string ⟨(Lib.cut s.data.toList p.data.toList).2.1.toArray⟩)]),(false,[.lit (.bool (Lib.cut s.data.toList p.data.toList).2.2)])]) :=
  acall2 ⟨_,Tryz.func114,rfl,rfl⟩ (fun _ _=>⟨_,rfl,_,_,rfl,⟨_,_,rfl,rfl,rfl⟩,_,_,rfl,⟨_,_,rfl,rfl,rfl⟩,_,_,rfl,⟨_,_,rfl,rfl,rfl⟩,rfl⟩) fun w ⟨m,hm⟩=>(Tryz.strings_Cut s p m w hs hm).mono fun _ _ h=>⟨h.1,by obtain ⟨n,hn⟩:=h.2;rw [hn];exact ⟨rfl,rfl,rfl,Nat.le_refl _,fun _ _=>rfl⟩⟩
theorem split_c (s p : ByteArray) (hs : s.size < 4294967281) (h1 : 1 ≤ p.size) (hc : Lib.countB s p + 1 ≤ maxLen) : qW Tryz.prog 170 [is s,is p] (.one (.sl .str (Lib.splitB p 0 (Lib.countB s p) s))):=by
  refine ⟨⟨_,Tryz.func170,rfl,rfl⟩,fun ok w vs hg hvs=>?_⟩;obtain ⟨v,t,rfl,hv,v2,t2,rfl,hv2,ht⟩:=hvs;rw [show t2 = [] from ht,show v = .string s from hv,show v2 = .string p from hv2];obtain ⟨_,_,m,hm⟩:=hg;refine (Tryz.strings_Split s p m w hs hm h1).mono ?_
  rintro e w' ⟨rfl,rfl⟩
  refine ⟨_,rfl,below_alloc w _,?_⟩;have hl:=Lib.splitB_all p h1 0 (Lib.countB s p) s rfl;rw [← hl] at hc ⊢;refine ⟨_,_,rfl,Nat.le_refl _,hc,fun i hi=>⟨w.heap.size,0,[.string (Lib.splitB p 0 (Lib.countB s p) s)[i]],rfl,okU0 (.inr ⟨Nat.le_refl _,by decide⟩),by simp,⟨rfl,fun j hj=>?_⟩,rfl⟩⟩;obtain rfl : j = 0:=by simp only [Rd.n] at hj;omega
  have hh : (w.alloc (Obj.cells (List.map Value.string (Lib.splitB p 0 (Lib.countB s p) s)).toArray 9)).heap[w.heap.size]? = _:=heap_new w _;simp only [World.cell?,hh];simp [Rd.n,hi]
theorem join_c (xs : List ByteArray) (sep : ByteArray) (hN : xs.length ≤ 140737488355328) (hlen : (Lib.join (xs.map (·.data.toList)) sep.data.toList).length ≤ 140737488355328) : qW Tryz.prog 120 [.one (.sl .str xs),is sep] (is ⟨(Lib.join (xs.map (·.data.toList)) sep.data.toList).toArray⟩):=by
  refine ⟨⟨_,Tryz.func120,rfl,rfl⟩,fun ok w vs hg hvs=>?_⟩;obtain ⟨v,t,rfl,⟨a,cap,rfl,h1,h2,hc⟩,v2,t2,rfl,hv2,ht⟩:=hvs;rw [show t2 = [] from ht,show v2 = .string sep from hv2]
  by_cases h0 : xs = []
  · subst h0;refine (Tryz.strings_Join_none a cap sep w).mono ?_
    rintro e w' ⟨rfl,rfl⟩
    exact ⟨_,rfl,Below.refl _ _,rfl⟩
  · have hpos : 0 < xs.length:=List.length_pos_iff.2 h0;obtain ⟨b,off,_,rfl,_,hb,_⟩:=hc 0 hpos;refine (Tryz.strings_Join b off cap xs sep w (fun j x hj=>?_) hb hN h1 hlen).mono ?_
    · obtain ⟨hjl,rfl⟩:=List.getElem?_eq_some_iff.1 hj;obtain ⟨b',off',cs,e,_,_,hcell,hr⟩:=hc j hjl;cases e;have hr : cs = [.string xs[j]]:=hr;have:=hcell.2 0 (by decide);rw [hr] at this
      simpa [Rd.n] using this
    · rintro e w' ⟨rfl,hb⟩
      exact ⟨_,rfl,hb,rfl⟩
end Ab
end Go.Proofs.YtlbainbjlibfiaaGreatDoor
namespace Go.Proofs.YtlbainbjlibfiaaGreatDoor
open Go.RowKit
namespace Ab
theorem trimS_c (s p : ByteArray) (hp : p.data.toList.all (fun b=>decide (b.toNat < 128)) = true) (hps : p.size < 4294967281) (hs : s.size ≤ 9223372036854775807) : qW Tryz.prog 142 [is s,is p] (is ⟨(Lib.trimS s.data.toList p.data.toList).toArray⟩) :=
  acall2 ⟨_,Tryz.func142,rfl,rfl⟩ (fun _ _=>rfl) fun w _=>(Any.strings_Trim_laid Tryz.lays160 (by kernel_rfl) s p w hs hps (ascii_of_all hp)).mono fun _ _ h=>h
end Ab
end Go.Proofs.YtlbainbjlibfiaaGreatDoor
namespace Go.Proofs.YtlbainbjlibfiaaGreatDoor
open Go.RowKit
namespace Ab
set_option maxRecDepth 100000
abbrev Fld:=ByteArray × ByteArray
abbrev rFld : Rd Fld:=.st .str .str
theorem qR {n b : Nat} (h : n ≤ 1000000000) (hb : b ≤ 1000) : n * b ≤ 140737488355328:=Nat.le_trans (Nat.mul_le_mul h hb) (by decide)
theorem map_next {α β : Type} (g : α → β) (d : α) {l : List α} {i : Nat} (h : i < l.length) (b : β) (hb : b = g (l.getD i d)) (c : List β) : c ++ (l.take i).map g ++ [b] = c ++ (l.take (i + 1)).map g:=by
  rw [hb,List.append_assoc,← yO d h,List.map_append];rfl
theorem drop_getD {α : Type} (l : List α) (d : α) (i : Nat) : (l.drop 1).getD i d = l.getD (i + 1) d:=by
  cases l with
  | nil=>simp
  | cons a b=>rfl
namespace Q
def xF (l : List Fld) : Prop:=l.length ≤ 1000 ∧ ∀ f ∈ l,f.1.size ≤ 1000000 ∧ f.2.size ≤ 1000000
def sumF (l : List Fld) : Nat:=(l.map fun f=>min f.1.size 10000 + min f.2.size 10000).sum
def muchB (l : List Fld) : Bool:=decide (61 < l.length) || decide (6000 < sumF l)
theorem sumF_take (l : List Fld) (i : Nat) (h : i < l.length) : sumF (l.take (i + 1)) = sumF (l.take i) + (min (l.getD i (ByteArray.empty,ByteArray.empty)).1.size 10000 + min (l.getD i (ByteArray.empty,ByteArray.empty)).2.size 10000):=by
  rw [List.take_succ_eq_append_getElem h,sumF,List.map_append,List.sum_append,List.getD_eq_getElem?_getD,List.getElem?_eq_getElem h];simp [sumF]
theorem sumF_le (l : List Fld) (i : Nat) : sumF (l.take i) ≤ sumF l:=by
  conv=>rhs;rw [← List.take_append_drop i l,sumF,List.map_append,List.sum_append]
  exact Nat.le_add_right _ _
theorem much_c (l : List Fld) : qW Tryz.prog 60 [.one (.sl rFld l)] (ib (muchB l)):=by
  refine qT (rs:=[2]) Tryz.func60 rfl rfl rfl teOk rfl ?_;refine qC ?_;refine qB ?_;refine qC ?_;refine qB ?_;refine qC ?_;refine qC ?_;refine qB ?_;intro l2_1
  try simp only [zds] at l2_1
  refine qP ?_;refine qV (fun (i : Nat)=>i ≤ l.length ∧ i ≤ 61 ∧ sumF (l.take i) ≤ 6000) (fun (i : Nat)=>[(3,ii .i64 (sumF (l.take i))),(6,.one (.sl rFld l)),(7,ii .i64 l.length),(8,ii .i64 i)]) (fun (i : Nat)=>[]) 0 (fun (i : Nat)=>l.length - i) 0 (⟨Nat.zero_le _,Nat.zero_le _,Nat.zero_le _⟩) (qQ ⟨rfl,rfl,rfl,rfl⟩ trivial rfl) ?_;intro i hI0;obtain ⟨hi,hi2,hn⟩:=hI0;refine qC ?_;refine qB ?_;refine qC ?_;refine qK rfl (fun h9=>?_) (fun h9=>?_)
  ·try simp only [decide_eq_true_eq] at h9
   try simp only [zds] at h9
   have hs:=sumF_take l i (by omega);refine qN ?_;refine qC ?_;refine qP ?_;refine qC ?_;refine qB ?_;refine zai (by first|omega|assumption|decide|(simp only [zds];omega)|(simp <;> omega)) ?_;refine qC ?_;refine qB ?_;refine zai (by first|omega|assumption|decide|(simp only [zds];omega)|(simp <;> omega)) ?_;refine zai (by first|omega|assumption|decide|(simp only [zds];omega)|(simp <;> omega)) ?_;refine qC ?_;refine qB ?_;refine zai (fun h=>trivial) ?_;refine zai (fun h=>⟨⟨h,trivial⟩,trivial⟩) ?_;refine zai (by first|(intro h;rw [h];rfl)|(intro h;cases h)) ?_;refine qK rfl (fun h29=>?_) (fun h29=>?_)
   ·try simp only [decide_eq_true_eq,Bool.or_eq_true] at h29
    try simp only [Int.toNat_natCast,qH,qF] at h29
    refine qC ?_;refine qB ?_;refine qM ?_;refine ib_eq ?_;unfold muchB;have hz:=sumF_le l (i + 1);rcases h29 with h|h
    (rw [decide_eq_true (show 61 < l.length by omega)];rfl)
    rw [decide_eq_true (show 6000 < sumF l by omega),Bool.or_true]
   ·try simp only [decide_eq_false_iff_not,Bool.or_eq_false_iff,Int.not_lt] at h29
    try simp only [Int.toNat_natCast,qH,qF] at h29
    refine qN ?_;refine qB ?_;refine zai (by first|omega|assumption|decide|(simp only [zds];omega)|(simp <;> omega)) ?_;exact ⟨i + 1,⟨by omega,by omega,by omega⟩,by first|omega|(simp <;> omega),qQ ⟨(qU (by (simp only [Int.toNat_natCast,qH,qF];omega))),rfl,rfl,rfl⟩ trivial rfl⟩
  ·try simp only [decide_eq_false_iff_not,Int.not_lt] at h9
   try simp only [zds] at h9
   refine qX ?_;refine qC ?_;refine qB ?_;refine qM ?_;refine ib_eq ?_;have e : i = l.length:=by omega
   subst e;rw [List.take_length] at hn;unfold muchB;rw [decide_eq_false (by omega),decide_eq_false (by omega)];rfl
theorem drop_cons {l : List UInt8} {i : Nat} (h : i < l.length) : l.drop i = l.getD i 0 :: l.drop (i + 1):=by
  rw [List.drop_eq_getElem_cons h,List.getD_eq_getElem?_getD,List.getElem?_eq_getElem h];rfl
theorem qY (s : ByteArray) : s.size = s.data.toList.length:=by cases s;rfl
theorem u8_eq {a b : UInt8} (h : (a.toNat : Int) = (b.toNat : Int)) : a = b:=UInt8.toNat_inj.1 (by omega)
abbrev ls (s : ByteArray) : List UInt8:=s.data.toList
def bytes (l : List UInt8) : ByteArray:=⟨l.toArray⟩
theorem yA (l : List UInt8) : (bytes l).data.toList = l:=by simp [bytes]
theorem xR (s : ByteArray) : bytes (ls s) = s:=by cases s;rfl
def Clean (sep p : List UInt8) : Prop:=(∀ r j,j < p.length → Lib.occAt (p ++ sep ++ r) sep j = false) ∧ ∀ j,j ≤ p.length → Lib.occAt p sep j = false
theorem clean_one {c : UInt8} {p : List UInt8} (h : c ∉ p) : Clean [c] p:=by
  refine ⟨fun r j hj=>?_,fun j _=>?_⟩
  · refine Bool.eq_false_iff.2 fun e=>?_
    have:=Lib.occAt_head rfl e;rw [List.append_assoc,List.getElem?_append_left hj] at this;exact h (List.mem_of_getElem? this)
  · refine Bool.eq_false_iff.2 fun e=>?_
    exact h (List.mem_of_getElem? (Lib.occAt_head rfl e))
theorem join_two (p q : List UInt8) (ps : List (List UInt8)) (sep : List UInt8) : Lib.join (p :: q :: ps) sep = p ++ sep ++ Lib.join (q :: ps) sep:=by
  rw [Lib.join_cons,Lib.join_cons];simp [Lib.joinTail]
theorem split_join {sep : List UInt8} (hs : sep ≠ []) : ∀ ps : List (List UInt8),ps ≠ [] → (∀ p ∈ ps,Clean sep p) → Lib.split (Lib.join ps sep) sep = ps
  | [],h,_=>absurd rfl h
  | [p],_,hc=>by
    unfold Lib.split;rw [Lib.join_one,Lib.count_miss (Lib.index_none (hc p (by simp)).2)];rfl
  | p :: q :: ps,_,hc=>by
    have hi : Lib.index (Lib.join (p :: q :: ps) sep) sep = p.length:=by
      rw [join_two];exact Lib.index_first (by simp) (by unfold Lib.occAt;rw [List.append_assoc,List.drop_left];exact List.isPrefixOf_iff_prefix.2 ⟨_,rfl⟩) ((hc p (by simp)).1 _)
    have hd : (Lib.join (p :: q :: ps) sep).drop (p.length + sep.length) = Lib.join (q :: ps) sep:=by
      rw [join_two,← List.length_append,List.drop_left]
    have ht : (Lib.join (p :: q :: ps) sep).take (p.length + 0) = p:=by
      rw [join_two,List.append_assoc,Nat.add_zero,List.take_left]
    have ih:=split_join hs (q :: ps) (by simp) fun p hp=>hc p (by simp [hp])
    unfold Lib.split at *;rw [Lib.count_hit hs hi,hd,Nat.add_comm,Lib.splitK,hi,if_neg (by intro e;have:=beq_iff_eq.1 e;omega),Int.toNat_natCast,ht,hd,ih]
theorem ints_app (l m : List UInt8) : xW (bytes l) ++ xW (bytes m) = xW (bytes (l ++ m)):=by
  unfold xW;rw [yA,yA,yA,List.map_append]
theorem ints_len (l : List UInt8) : (xW (bytes l)).length = l.length:=by unfold xW;rw [yA,List.length_map]
theorem extract_one {s : ByteArray} {i : Nat} (h : i < s.data.toList.length) : s.extract i (i + 1) = bytes [s.data.toList.getD i 0]:=by
  apply ByteArray.ext;apply Array.ext';rw [yA,Lib.extract_data,Nat.add_sub_cancel_left,drop_cons h];rfl
theorem xK (l m : List UInt8) : bytes (l ++ m) = bytes l ++ bytes m:=by
  apply ByteArray.ext;simp [bytes]
theorem ints_add (l m : List UInt8) (t : ByteArray) (h : t = bytes m) : xW (bytes l) ++ xW t = xW (bytes (l ++ m)):=by rw [h,ints_app]
theorem yI (l : List UInt8) : (bytes l).size = l.length:=by rw [qY,yA]
theorem extract_ls (s : ByteArray) (a b : Nat) : (s.extract a b).data.toList = (s.data.toList.drop a).take (b - a):=Lib.extract_data s a b
theorem split_v (s p : ByteArray) (ws : List ByteArray) (hw : Lib.splitB p 0 (Lib.countB s p) s = ws) (hs : s.size ≤ 1000000) (h1 : 1 ≤ p.size) : qW Tryz.prog 170 [is s,is p] (.one (.sl .str ws)):=by
  subst hw;exact split_c s p (by omega) h1 (by have:=Lib.countB_le p h1 _ s (Nat.le_refl _);unfold maxLen;omega)
theorem split_size (p : ByteArray) : ∀ (k : Nat) (s : ByteArray),∀ x ∈ Lib.splitB p 0 k s,x.size ≤ s.size
  | 0,s,x,hx=>by rw [List.mem_singleton.1 hx];exact Nat.le_refl _
  | k + 1,s,x,hx=>by
    unfold Lib.splitB at hx;split at hx
    · rw [List.mem_singleton.1 hx];exact Nat.le_refl _
    · rcases List.mem_cons.1 hx with rfl|hx
      · rw [ByteArray.size_extract];omega
      · have:=split_size p k _ x hx;rw [ByteArray.size_extract] at this;omega
theorem split_len (p s : ByteArray) (h1 : 1 ≤ p.size) : (Lib.splitB p 0 (Lib.countB s p) s).length ≤ s.size + 1:=by
  rw [Lib.splitB_all p h1 0 _ s rfl];have:=Lib.countB_le p h1 _ s (Nat.le_refl _);omega
theorem split_ls (p s : ByteArray) : (Lib.splitB p 0 (Lib.countB s p) s).map ls = Lib.split (ls s) (ls p):=Lib.splitB_data p 0 _ s
theorem map_take_succ {α β : Type} (g : α → β) (l : List α) (d : α) (i : Nat) (h : i < l.length) : (l.take (i + 1)).map g = (l.take i).map g ++ [g (l.getD i d)]:=by
  rw [← yO d h,List.map_append];rfl
theorem ls_inj {s : ByteArray} {l : List UInt8} (h : ls s = l) : s = bytes l:=by rw [← h,xR]
theorem occ_one (l : List UInt8) (c : UInt8) (i : Nat) : Lib.occAt l [c] i = true ↔ l[i]? = some c:=by
  refine ⟨fun h=>Lib.occAt_head rfl h,fun h=>?_⟩;unfold Lib.occAt;obtain ⟨hi,e⟩:=List.getElem?_eq_some_iff.1 h;rw [List.drop_eq_getElem_cons hi,e];simp [List.isPrefixOf]
theorem contains_one (l : List UInt8) (c : UInt8) : Lib.contains l [c] = decide (c ∈ l):=by
  unfold Lib.contains;refine decide_eq_decide.2 ⟨fun h=>?_,fun h=>?_⟩
  · rcases Lib.index_spec l [c] with ⟨e,_⟩|⟨i,_,_,h3,_⟩
    · omega
    · exact List.mem_of_getElem? ((occ_one l c i).1 h3)
  · obtain ⟨i,hi,e⟩:=List.getElem_of_mem h;rcases Lib.index_spec l [c] with ⟨_,h2⟩|⟨i,h1,_⟩
    · have:=h2 i (Nat.le_of_lt hi);rw [(occ_one l c i).2 (by rw [List.getElem?_eq_getElem hi,e])] at this;cases this
    · omega
def xT (c : UInt8) : Bool:=decide (c = 32) || decide (c = 9)
def blankL (l : List UInt8) : Bool:=decide (1 ≤ l.length) && xT (l.getD 0 0)
def keyOk (l : List UInt8) : Bool:=(((((decide (1 ≤ l.length) && decide (l.length ≤ 32)) && !xT (l.getD 0 0)) && !decide (l.getD 0 0 = 35)) && !decide (58 ∈ l)) && !decide (10 ∈ l))
theorem emp {s : ByteArray} : s = ⟨#[]⟩ ↔ s.data.toList.length = 0:=by
  refine ⟨fun h=>by rw [h];rfl,fun h=>?_⟩;have:=List.eq_nil_of_length_eq_zero h;rw [← xR s,show ls s = [] from this];rfl
theorem xU (l : List UInt8) (c : UInt8) : Lib.hasPrefix l [c] = (decide (1 ≤ l.length) && decide (l.getD 0 0 = c)):=by
  unfold Lib.hasPrefix;cases l with
  | nil=>rfl
  | cons d l =>
    have : (c == d) = decide (d = c):=by rw [Bool.eq_iff_iff,beq_iff_eq,decide_eq_true_iff];exact eq_comm
    simp [List.isPrefixOf,this]
theorem u8_iff (c d : UInt8) : ((c.toNat : Int) = d.toNat) ↔ c = d:=⟨u8_eq,fun h=>by rw [h]⟩
theorem keyOk_prog (l : List UInt8) : keyOk l = (!(((decide (l.length = 0) || decide (32 < l.length)) || blankL l) || Lib.hasPrefix l [35]) && (!Lib.contains l [58] && !Lib.contains l [10])):=by
  rw [contains_one,contains_one,xU];unfold keyOk blankL
  by_cases h : 1 ≤ l.length
  · have h0 : ¬ l.length = 0:=by omega
    by_cases h2 : l.length ≤ 32
    · have h3 : ¬ 32 < l.length:=by omega
      simp [h,h0,h2,h3,Bool.and_assoc]
    · have h3 : 32 < l.length:=by omega
      simp [h2,h3]
  · have h0 : l.length = 0:=by omega
    simp [h0]
theorem blank_c (s : ByteArray) (hs : s.size ≤ 1000000000) : qW Tryz.prog 144 [is s] (ib (blankL s.data.toList)):=by
  have hz:=qY s;refine qT (rs:=[2]) Tryz.func144 rfl rfl rfl teOk rfl ?_;refine qC ?_;refine qB ?_;refine qC ?_;refine qB ?_;refine zai (fun h=>trivial) ?_;refine zai (fun h=>⟨⟨⟨h,trivial⟩,trivial⟩,by have h9 : ¬ s = ⟨#[]⟩:=(by simpa [gq] using h);rw [emp] at h9;omega⟩) ?_;refine Or.inl ?_;refine zai (rfl) ?_;refine zei _ (zai (fun h=>⟨⟨⟨h,trivial⟩,trivial⟩,contains_c _ _ (by decide)⟩) ?_);refine zai (by exact fun h=>h) ?_;refine qM ?_;refine ib_eq ?_
  by_cases h : s.data.toList.length = 0
  ·rw [decide_eq_true (emp.2 h),Bool.not_true,Bool.false_and];unfold blankL;rw [h];rfl
  ·rw [decide_eq_false (fun e=>h (emp.1 e)),show s.extract (Int.toNat 0) (Int.toNat 1) = bytes [s.data.toList.getD 0 0] from extract_one (by omega),yA,contains_one];unfold blankL xT;rw [decide_eq_true (show 1 ≤ s.data.toList.length by omega)];simp
theorem key_c (s : ByteArray) (hs : s.size ≤ 1000000000) : qW Tryz.prog 145 [is s] (ib (keyOk s.data.toList)):=by
  have hz:=qY s;refine qT (rs:=[2]) Tryz.func145 rfl rfl rfl teOk rfl ?_;refine qC ?_;refine qB ?_;refine qC ?_;refine qC ?_;refine qB ?_;refine zai (fun h=>trivial) ?_;refine zai (fun h=>⟨⟨h,trivial⟩,trivial⟩) ?_;refine zai (fun h=>⟨⟨h,trivial⟩,trivial⟩) ?_;refine zai (by first|(intro h;rw [h];rfl)|(intro h;cases h)) ?_;refine zai (fun h=>trivial) ?_;refine Or.inl ?_;refine zai (rfl) ?_;refine zei _ (zai (fun h=>⟨⟨⟨h,trivial⟩,trivial⟩,blank_c _ hs⟩) ?_);refine zai (by first|(intro h;rw [h];rfl)|(intro h;cases h)) ?_;refine zai (fun h=>trivial) ?_;refine Or.inl ?_;refine zai (rfl) ?_;refine zei _ (zai (fun h=>⟨⟨⟨h,trivial⟩,trivial⟩,hasPrefix_c _ _⟩) ?_);refine zai (by first|(intro h;rw [h];rfl)|(intro h;cases h)) ?_;refine qK rfl (fun h17=>?_) (fun h17=>?_)
  ·try simp only [decide_eq_true_eq,Bool.or_eq_true] at h17
   try simp only [zds] at h17
   refine qC ?_;refine qB ?_;refine qM ?_;refine ib_eq ?_;rw [keyOk_prog];rw [emp] at h17;rcases h17 with ((h|h)|h)|h
   ·simp [h]
   ·rw [decide_eq_true (show 32 < s.data.toList.length by omega)];simp
   ·simp [h]
   ·simp [h]
  ·try simp only [decide_eq_false_iff_not,Bool.or_eq_false_iff,Int.not_lt] at h17
   try simp only [zds] at h17
   refine qN ?_;refine qC ?_;refine qB ?_;refine Or.inl ?_;refine zai (rfl) ?_;refine zei _ (zai (contains_c _ _ (by omega)) ?_);refine zai (fun h=>trivial) ?_;refine Or.inl ?_;refine zai (rfl) ?_;refine zei _ (zai (fun h=>⟨⟨⟨h,trivial⟩,trivial⟩,contains_c _ _ (by omega)⟩) ?_);refine zai (fun h=>⟨⟨h,trivial⟩,trivial⟩) ?_;refine zai (by exact fun h=>h) ?_;refine qM ?_;refine ib_eq ?_;rw [keyOk_prog];rw [emp] at h17;obtain ⟨⟨⟨h1,h2⟩,h3⟩,h4⟩:=h17;simp only [h3,h4,decide_eq_false h1,decide_eq_false (show ¬ 32 < s.data.toList.length by omega)];rfl
theorem refBlank_c (c : UInt8) (n : Int) (hn : n = c.toNat) : qW Tryz.prog 126 [ii .u8 n] (ib (xT c)):=by
  subst hn;refine qT (rs:=[2]) Tryz.func126 rfl rfl rfl teOk rfl ?_;refine qC ?_;refine qB ?_;refine qC ?_;refine qB ?_;refine zai (fun h=>trivial) ?_;refine zai (fun h=>⟨⟨h,trivial⟩,trivial⟩) ?_;refine zai (by first|(intro h;rw [h];rfl)|(intro h;cases h)) ?_;refine qM ?_;refine ib_eq ?_;unfold xT;rw [decide_eq_decide.2 (show (c.toNat : Int) = 32 ↔ c = 32 from u8_iff c 32),decide_eq_decide.2 (show (c.toNat : Int) = 9 ↔ c = 9 from u8_iff c 9)]
theorem notin_snoc {l : List UInt8} {c : UInt8} {i : Nat} (hi : i < l.length) (h : c ∉ l.take i) (hc : l.getD i 0 ≠ c) : c ∉ l.take (i + 1):=by
  rw [← yO 0 hi,List.mem_append,List.mem_singleton];exact fun e=>e.elim h fun e=>hc e.symm
theorem refKey_c (s : ByteArray) (hs : s.size ≤ 1000000000) : qW Tryz.prog 149 [is s] (ib (keyOk s.data.toList)):=by
  have hz:=qY s;refine qT (rs:=[2]) Tryz.func149 rfl rfl rfl teOk rfl ?_;refine qC ?_;refine qB ?_;refine qC ?_;refine qC ?_;refine qB ?_;refine zai (fun h=>trivial) ?_;refine zai (fun h=>⟨⟨h,trivial⟩,trivial⟩) ?_;refine zai (fun h=>⟨⟨h,trivial⟩,trivial⟩) ?_;refine zai (by first|(intro h;rw [h];rfl)|(intro h;cases h)) ?_;refine zai (fun h=>trivial) ?_;refine zai (fun h=>⟨⟨⟨h,trivial⟩,trivial⟩,by first|omega|decide|(simp only [zds];omega)|(have h9:=of_decide_eq_true h;omega)|(simp [gq] at h;omega)⟩) ?_;refine Or.inl ?_;refine zai (rfl) ?_;refine zei _ (zai (fun h=>⟨⟨⟨h,trivial⟩,trivial⟩,refBlank_c (s.data.toList.getD 0 0) _ rfl⟩) ?_);refine zai (by first|(intro h;rw [h];rfl)|(intro h;cases h)) ?_;refine zai (fun h=>trivial) ?_;refine zai (fun h=>⟨⟨⟨h,trivial⟩,trivial⟩,by first|omega|decide|(simp only [zds];omega)|(have h9:=of_decide_eq_true h;omega)|(simp [gq] at h;omega)⟩) ?_;refine zai (fun h=>⟨⟨h,trivial⟩,trivial⟩) ?_;refine zai (by first|(intro h;rw [h];rfl)|(intro h;cases h)) ?_;refine qK rfl (fun h21=>?_) (fun h21=>?_)
  ·try simp only [decide_eq_true_eq,Bool.or_eq_true] at h21
   try simp only [zds] at h21
   refine qC ?_;refine qB ?_;refine qM ?_;refine ib_eq ?_;unfold keyOk;rcases h21 with ((h|h)|h)|h
   ·rw [decide_eq_false (show ¬ 1 ≤ s.data.toList.length by omega)];simp
   ·rw [decide_eq_false (show ¬ s.data.toList.length ≤ 32 by omega)];simp
   ·rw [h];simp
   ·rw [show s.data.toList.getD 0 0 = 35 from u8_eq h];simp
  ·try simp only [decide_eq_false_iff_not,Bool.or_eq_false_iff,Int.not_lt] at h21
   try simp only [zds] at h21
   refine qN ?_;refine qC ?_;refine qC ?_;refine qB ?_;refine qP ?_;refine qV (fun (i : Nat)=>i ≤ s.size ∧ 58 ∉ s.data.toList.take i ∧ 10 ∉ s.data.toList.take i) (fun (i : Nat)=>[(0,is s),(3,ii .i64 i)]) (fun (i : Nat)=>[]) 0 (fun (i : Nat)=>s.size - i) 0 (⟨Nat.zero_le _,by simp,by simp⟩) (qQ ⟨rfl,rfl⟩ trivial rfl) ?_;intro i hI0;obtain ⟨hi,h1,h2⟩:=hI0;refine qC ?_;refine qC ?_;refine qB ?_;refine qK rfl (fun h25=>?_) (fun h25=>?_)
   ·try simp only [decide_eq_true_eq] at h25
    try simp only [zds] at h25
    have hlt : i < s.data.toList.length:=by omega
    refine qN ?_;refine qC ?_;refine qP ?_;refine qC ?_;refine qB ?_;refine zai (by first|omega|assumption|decide|(simp only [zds];omega)|(simp <;> omega)) ?_;refine zai (fun h=>trivial) ?_;refine zai (fun h=>trivial) ?_;refine zai (fun h=>⟨⟨⟨h,trivial⟩,⟨h,trivial⟩,trivial⟩,by first|omega|decide|(simp only [zds];omega)|(have h9:=of_decide_eq_true h;omega)|(simp [gq] at h;omega)⟩) ?_;refine zai (fun h=>⟨⟨h,trivial⟩,trivial⟩) ?_;refine zai (by first|(intro h;rw [h];rfl)|(intro h;cases h)) ?_;refine qK rfl (fun h37=>?_) (fun h37=>?_)
    ·try simp only [decide_eq_true_eq,Bool.or_eq_true] at h37
     try simp only [Int.toNat_natCast] at h37
     refine qC ?_;refine qB ?_;refine qM ?_;refine ib_eq ?_;unfold keyOk;rcases h37 with h|h
     ·rw [decide_eq_true (show 58 ∈ s.data.toList from (show s.data.toList.getD i 0 = 58 from u8_eq h) ▸ yK hlt 0)];simp
     ·rw [decide_eq_true (show 10 ∈ s.data.toList from (show s.data.toList.getD i 0 = 10 from u8_eq h) ▸ yK hlt 0)];simp
    ·try simp only [decide_eq_false_iff_not,Bool.or_eq_false_iff] at h37
     try simp only [Int.toNat_natCast] at h37
     have hc1 : s.data.toList.getD i 0 ≠ 58:=fun e=>h37.1 (by rw [e];rfl)
     have hc2 : s.data.toList.getD i 0 ≠ 10:=fun e=>h37.2 (by rw [e];rfl)
     refine qN ?_;refine qB ?_;refine zai (by first|omega|assumption|decide|(simp only [zds];omega)|(simp <;> omega)) ?_;exact ⟨i + 1,⟨by omega,notin_snoc hlt h1 hc1,notin_snoc hlt h2 hc2⟩,by first|omega|(simp <;> omega),qQ ⟨rfl,rfl⟩ trivial rfl⟩
   ·try simp only [decide_eq_false_iff_not,Int.not_lt] at h25
    try simp only [zds] at h25
    refine qX ?_;refine qC ?_;refine qB ?_;refine qM ?_;refine ib_eq ?_;rw [List.take_of_length_le (by omega)] at h1 h2;unfold keyOk;obtain ⟨⟨⟨a1,a2⟩,a3⟩,a4⟩:=h21;rw [a3,decide_eq_false h1,decide_eq_false h2,decide_eq_true (show 1 ≤ s.data.toList.length by omega),decide_eq_true (show s.data.toList.length ≤ 32 by omega),decide_eq_false (fun e : s.data.toList.getD 0 0 = 35=>a4 (by rw [show Int.toNat 0 = 0 from rfl,e];rfl))];rfl
theorem all_take_succ {α : Type} (l : List α) (p : α → Bool) (d : α) (i : Nat) (h : i < l.length) : (l.take (i + 1)).all p = ((l.take i).all p && p (l.getD i d)):=by
  rw [← yO d h,List.all_append];simp
theorem map_snoc {α β : Type} (f : α → β) {l : List α} {i : Nat} (d : α) (h : i < l.length) : (l.take i).map f ++ [f (l.getD i d)] = (l.take (i + 1)).map f:=(map_take_succ f l d i h).symm
theorem split_mem {s sep w : List UInt8} (h : w ∈ Lib.split s sep) : w.length ≤ s.length:=by
  have : Lib.split s sep = (Lib.splitB (bytes sep) 0 (Lib.countB (bytes s) (bytes sep)) (bytes s)).map ls:=by rw [split_ls];unfold ls;rw [yA,yA]
  rw [this] at h;obtain ⟨x,hx,rfl⟩:=List.mem_map.1 h;have:=split_size _ _ _ x hx;rw [yI,qY] at this;exact this
theorem acall_arg {P : Program} {f : FuncId} {xs ys : List A} {r : A} (h : ∀ ok ρ w vs,xH ok ρ w xs vs → xH ok ρ w ys vs) (hc : qW P f ys r) : qW P f xs r :=
  ⟨hc.1,fun ok w vs hg hv=>hc.2 ok w vs hg (h _ _ _ _ hv)⟩
theorem sumF_mem {l : List Fld} {f : Fld} (h : f ∈ l) : min f.1.size 10000 + min f.2.size 10000 ≤ sumF l:=by
  induction l with
  | nil=>cases h
  | cons g l ih =>
    unfold sumF at *;rw [List.map_cons,List.sum_cons];rcases List.mem_cons.1 h with rfl|h
    · omega
    · have:=ih h;omega
theorem much_ok {l : List Fld} (h : muchB l = false) : xF l:=by
  unfold muchB at h;simp only [Bool.or_eq_false_iff,decide_eq_false_iff_not] at h;refine ⟨by omega,fun f hf=>?_⟩;have:=sumF_mem hf;omega
end Q
end Ab
end Go.Proofs.YtlbainbjlibfiaaGreatDoor
namespace Go.Proofs.YtlbainbjlibfiaaGreatDoor
open Go.RowKit
namespace Ab
namespace Q
theorem dropWhile_nil {α : Type} {p : α → Bool} : ∀ {l : List α},l.dropWhile p = [] ↔ l.all p = true
  | []=>by simp
  | a :: l=>by
    rw [List.dropWhile_cons,List.all_cons];cases h : p a
    · simp
    · simp [dropWhile_nil (p:=p) (l:=l)]
theorem mem_tw {α : Type} {p : α → Bool} {x : α} : ∀ {l : List α},x ∈ l.takeWhile p → p x = true
  | a :: l,h=>by
    rw [List.takeWhile_cons] at h;split at h
    · rename_i hp;rcases List.mem_cons.1 h with rfl|h
      · exact hp
      · exact mem_tw h
    · cases h
theorem trim_nil (l : List UInt8) : Lib.trimS l [32,9] = [] ↔ l.all xT = true:=by
  have hp : (fun c : UInt8=>([32,9] : List UInt8).contains c) = xT:=by
    funext c;unfold xT;simp
  unfold Lib.trimS Lib.trimLeftS Lib.trimRightS;rw [show (fun x : UInt8=>([32,9] : List UInt8).contains x) = xT from hp,dropWhile_nil];refine ⟨fun h=>?_,fun h=>?_⟩
  · refine List.all_eq_true.2 fun x hx=>?_
    by_cases hb : xT x = true
    · exact hb
    · exfalso
      have h2 : x ∈ (l.reverse.dropWhile xT):=by
        have hs : l.reverse = l.reverse.takeWhile xT ++ l.reverse.dropWhile xT:=(List.takeWhile_append_dropWhile).symm;have hm : x ∈ l.reverse:=List.mem_reverse.2 hx;rw [hs] at hm;rcases List.mem_append.1 hm with h3|h3
        · exact absurd (mem_tw h3) hb
        · exact h3
      exact hb (List.all_eq_true.1 h x (List.mem_reverse.2 h2))
  · have : l.reverse.dropWhile xT = []:=dropWhile_nil.2 (by rw [List.all_reverse];exact h);rw [this];rfl
def yX (s : List UInt8) : List UInt8:=if s.all xT || Lib.hasPrefix s [46] then 46 :: s else s
def yP (v : List UInt8) : List (List UInt8):=Lib.split v [10]
def xP (key : List UInt8) (p : List UInt8) : List UInt8:=key ++ [58] ++ (if p = [] then [] else 32 :: p)
def xX (key v : List UInt8) : List (List UInt8):=xP key ((yP v).headD []) :: ((yP v).drop 1).map fun s=>32 :: yX s
def qZ (l : List UInt8) : Int:=if 10 ∈ l then 5 else if l.all xT = true then 1 else if Lib.hasPrefix l [35] = true then 2 else if blankL l = true then 3
  else if ((Lib.cut l [58]).2.2 && keyOk (Lib.cut l [58]).1) = true then 4 else 5
theorem split_ne (v : List UInt8) (sep : List UInt8) : Lib.split v sep ≠ []:=by
  unfold Lib.split;cases Lib.count v sep with
  | zero=>simp [Lib.splitK]
  | succ k=>unfold Lib.splitK;split <;> simp
theorem splitK_one (v : List UInt8) (c : UInt8) : ∀ k,v.length ≤ k → (∀ p ∈ Lib.split v [c],c ∉ p) ∧ Lib.join (Lib.split v [c]) [c] = v:=by
  intro k
  induction k generalizing v with
  | zero =>
    intro h;obtain rfl : v = []:=List.eq_nil_of_length_eq_zero (by omega);exact ⟨fun p hp=>by
      have : p = []:=by simpa [Lib.split,Lib.count,Lib.countFrom,Lib.index,Lib.splitK] using hp
      rw [this];simp,by simp [Lib.split,Lib.count,Lib.countFrom,Lib.index,Lib.splitK,Lib.join_one]⟩
  | succ k ih =>
    intro h;rcases Lib.index_spec v [c] with ⟨hi,hn⟩|⟨i,hi,hil,ho,hno⟩
    · have e : Lib.split v [c] = [v]:=by unfold Lib.split;rw [Lib.count_miss hi];rfl
      rw [e];refine ⟨fun p hp hc=>?_,Lib.join_one _ _⟩;rw [List.mem_singleton.1 hp] at hc;obtain ⟨j,hj,e⟩:=List.getElem_of_mem hc;have:=hn j (Nat.le_of_lt hj);rw [(occ_one v c j).2 (by rw [List.getElem?_eq_getElem hj,e])] at this;cases this
    · have hat:=(occ_one v c i).1 ho;obtain ⟨hlt,hat⟩:=List.getElem?_eq_some_iff.1 hat;have e : Lib.split v [c] = v.take i :: Lib.split (v.drop (i + 1)) [c]:=by
        unfold Lib.split;rw [Lib.count_hit (by simp) hi,Nat.add_comm,Lib.splitK,hi,if_neg (by intro e;have:=beq_iff_eq.1 e;omega),Int.toNat_natCast];rfl
      obtain ⟨h1,h2⟩:=ih (v.drop (i + 1)) (by rw [List.length_drop];omega);rw [e];refine ⟨fun p hp=>?_,?_⟩
      · rcases List.mem_cons.1 hp with rfl|hp
        · intro hc;obtain ⟨j,hj,e⟩:=List.getElem_of_mem hc;rw [List.length_take] at hj;have:=hno j (by omega);rw [(occ_one v c j).2 (by rw [List.getElem?_eq_getElem (by omega)];rw [List.getElem_take] at e;rw [e])] at this;cases this
        · exact h1 p hp
      · obtain ⟨q,qs,eq⟩ : ∃ q qs,Lib.split (v.drop (i + 1)) [c] = q :: qs:=by
          cases e2 : Lib.split (v.drop (i + 1)) [c] with
          | nil=>exact absurd e2 (split_ne _ _)
          | cons q qs=>exact ⟨q,qs,rfl⟩
        rw [eq] at h2 ⊢;rw [join_two,h2,List.append_assoc];have:=List.take_append_drop i v;rw [List.drop_eq_getElem_cons hlt,hat] at this;exact this
theorem parts_no (v : List UInt8) : ∀ p ∈ yP v,10 ∉ p:=(splitK_one v 10 _ (Nat.le_refl _)).1
theorem parts_join (v : List UInt8) : Lib.join (yP v) [10] = v:=(splitK_one v 10 _ (Nat.le_refl _)).2
theorem cut_at {key r : List UInt8} {c : UInt8} (h : c ∉ key) : Lib.cut (key ++ c :: r) [c] = (key,r,true):=by
  have hi : Lib.index (key ++ c :: r) [c] = key.length:=by
    refine Lib.index_first (by simp) ((occ_one _ _ _).2 (by simp)) fun j hj=>Bool.eq_false_iff.2 fun e=>?_
    have:=(occ_one _ _ _).1 e;rw [List.getElem?_append_left hj] at this;exact h (List.mem_of_getElem? this)
  unfold Lib.cut;rw [hi,if_pos (by omega),Int.toNat_natCast,List.take_left];show (key,List.drop (key.length + 1) (key ++ c :: r),true) = _;rw [← List.drop_drop,List.drop_left];rfl
theorem keyOk_spec {k : List UInt8} (h : keyOk k = true) : ∃ c r,k = c :: r ∧ xT c = false ∧ c ≠ 35 ∧ 58 ∉ k ∧ 10 ∉ k ∧ k.length ≤ 32:=by
  unfold keyOk at h;simp only [Bool.and_eq_true,decide_eq_true_eq,Bool.not_eq_true',decide_eq_false_iff_not] at h;obtain ⟨⟨⟨⟨⟨h1,h2⟩,h3⟩,h4⟩,h5⟩,h6⟩:=h;cases k with
  | nil=>simp at h1
  | cons c r=>exact ⟨c,r,rfl,by simpa using h3,by simpa using h4,h5,h6,h2⟩
theorem first_kind {k p : List UInt8} (hk : keyOk k = true) (hp : 10 ∉ p) : qZ (xP k p) = 4 ∧ Lib.cut (xP k p) [58] = (k,(if p = [] then [] else 32 :: p),true):=by
  obtain ⟨c,r,rfl,hb,h35,h58,h10,_⟩:=keyOk_spec hk;have hc : Lib.cut (xP (c :: r) p) [58] = (c :: r,(if p = [] then [] else 32 :: p),true):=by
    have : xP (c :: r) p = (c :: r) ++ 58 :: (if p = [] then [] else 32 :: p):=by unfold xP;simp
    rw [this,cut_at h58]
  refine ⟨?_,hc⟩;have hm : 10 ∉ xP (c :: r) p:=by
    unfold xP;simp only [List.mem_append,not_or];refine ⟨⟨h10,by decide⟩,?_⟩;split
    · simp
    · simp only [List.mem_cons,not_or];exact ⟨by decide,hp⟩
  have hh : xP (c :: r) p = c :: (r ++ [58] ++ (if p = [] then [] else 32 :: p)):=by unfold xP;simp
  unfold qZ;rw [if_neg hm,if_neg (by rw [hh,List.all_cons,hb];simp),if_neg (by rw [hh,xU];simp [h35]),if_neg (by rw [hh];unfold blankL;simp [hb]),hc];rw [if_pos (by simp only [Bool.true_and];exact hk)]
theorem stuff_no {s : List UInt8} (h : 10 ∉ s) : 10 ∉ yX s:=by
  unfold yX;split
  · simp only [List.mem_cons,not_or];exact ⟨by decide,h⟩
  · exact h
theorem more_kind {s : List UInt8} (h : 10 ∉ s) : qZ (32 :: yX s) = 3:=by
  have hm : 10 ∉ (32 :: yX s : List UInt8):=by
    simp only [List.mem_cons,not_or];exact ⟨by decide,stuff_no h⟩
  have hall : (32 :: yX s : List UInt8).all xT = false:=by
    rw [List.all_cons];unfold yX;split
    · simp [xT]
    · rename_i h2;simp only [Bool.or_eq_true,not_or] at h2;rw [show s.all xT = false by simpa using h2.1];simp
  unfold qZ;rw [if_neg hm,if_neg (by rw [hall];decide),if_neg (by rw [xU];simp),if_pos (by unfold blankL;simp [xT])]
theorem stuff_back (s : List UInt8) : Lib.trimPrefix (yX s) [46] = s:=by
  unfold yX Lib.trimPrefix;split
  · rename_i h;rw [if_pos (by rw [xU];simp)];rfl
  · rename_i h;simp only [Bool.or_eq_true,not_or] at h;rw [if_neg h.2]
theorem first_back {p : List UInt8} : Lib.trimPrefix (if p = [] then [] else 32 :: p) [32] = p:=by
  unfold Lib.trimPrefix;split
  · rename_i h;subst h;rfl
  · rw [if_pos (by rw [xU];simp)];rfl
def valueL (l0 : List UInt8) (rest : List (List UInt8)) : List UInt8:=Lib.join (Lib.trimPrefix (Lib.cut l0 [58]).2.1 [32] :: rest.map fun s=>Lib.trimPrefix (s.drop 1) [46]) [10]
def yL : List (List UInt8) → (List UInt8 × List UInt8) × Int
  | []=>(([],[]),2)
  | l0 :: rest=>if qZ l0 ≠ 4 ∨ (rest.any fun s=>!decide (qZ s = 3)) = true then (([],[]),2) else if 1000 < (valueL l0 rest).length then (([],[]),6) else (((Lib.cut l0 [58]).1,valueL l0 rest),0)
theorem unfold_lines {k v : List UInt8} (hk : keyOk k = true) (hv : v.length ≤ 1000) : yL (xX k v) = ((k,v),0):=by
  have hno:=parts_no v;obtain ⟨p,ps,e⟩ : ∃ p ps,yP v = p :: ps:=by
    cases h : yP v with
    | nil=>exact absurd h (split_ne v [10])
    | cons p ps=>exact ⟨p,ps,rfl⟩
  have hj:=parts_join v;rw [e] at hno hj;obtain ⟨h1,h2⟩:=first_kind hk (hno p (by simp));unfold xX;rw [e];show yL (xP k p :: ps.map fun s=>32 :: yX s) = _;have hany : ((ps.map fun s=>32 :: yX s).any fun s=>!decide (qZ s = 3)) = false:=by
    rw [List.any_eq_false];intro s hs;obtain ⟨q,hq,rfl⟩:=List.mem_map.1 hs;rw [more_kind (hno q (by simp [hq]))];simp
  have hval : valueL (xP k p) (ps.map fun s=>32 :: yX s) = v:=by
    unfold valueL;rw [h2];show Lib.join (Lib.trimPrefix (if p = [] then [] else 32 :: p) [32] :: _) _ = v;rw [first_back,List.map_map];have : (ps.map ((fun s=>Lib.trimPrefix (s.drop 1) [46]) ∘ fun s=>32 :: yX s)) = ps:=by
      conv=>rhs;rw [← List.map_id ps]
      exact List.map_congr_left fun s _=>stuff_back s
    rw [this,hj]
  show (if qZ (xP k p) ≠ 4 ∨ ((ps.map fun s=>32 :: yX s).any fun s=>!decide (qZ s = 3)) = true then ((([] : List UInt8),([] : List UInt8)),(2 : Int)) else if 1000 < (valueL (xP k p) (ps.map fun s=>32 :: yX s)).length then (([],[]),6) else (((Lib.cut (xP k p) [58]).1,valueL (xP k p) (ps.map fun s=>32 :: yX s)),0)) = _;rw [if_neg (by rw [hany];simp [h1]),hval,if_neg (by omega),h2]
end Q
end Ab
end Go.Proofs.YtlbainbjlibfiaaGreatDoor
namespace Go.Proofs.YtlbainbjlibfiaaGreatDoor
open Go.RowKit
namespace Ab
set_option maxRecDepth 100000
namespace Q
def yR (f : Fld) : Int:=if keyOk f.1.data.toList = true then (if 1000 < f.2.size then 6 else 0) else 5
def errN (n : Int) : C:=.lit (.iface 75 (.int .i64 n))
def errA (n : Int) : C:=if n = 0 then .lit .nilIface else errN n
theorem errA_eq {n m : Int} (h : n = m) : A.one (errA n) = A.one (errA m):=by rw [h]
theorem check_c (f : Fld) (hk : f.1.size ≤ 1000000000) : qW Tryz.prog 151 [.agg (toL rFld f)] (.one (errA (yR f))):=by
  refine qT (rs:=[2]) Tryz.func151 rfl rfl rfl teOk rfl ?_;refine qC ?_;refine qB ?_;refine qC ?_;refine qP ?_;refine qC ?_;refine qB ?_;refine Or.inl ?_;refine zai (rfl) ?_;refine zei _ (zai (key_c _ hk) ?_);refine qK rfl (fun h3=>?_) (fun h3=>?_)
  ·try simp only [Bool.not_eq_true'] at h3
   try simp only [zds] at h3
   refine qC ?_;refine qB ?_;refine qM ?_;exact errA_eq (n:=5) (by unfold yR;rw [if_neg (by rw [h3];decide)])
  ·try simp only [Bool.not_eq_false'] at h3
   try simp only [zds] at h3
   refine qC ?_;refine qB ?_;refine qK rfl (fun h9=>?_) (fun h9=>?_)
   ·try simp only [decide_eq_true_eq] at h9
    try simp only [zds] at h9
    refine qC ?_;refine qB ?_;refine qM ?_;exact errA_eq (n:=6) (by unfold yR;rw [if_pos h3,if_pos (by omega)])
   ·try simp only [decide_eq_false_iff_not,Int.not_lt] at h9
    try simp only [zds] at h9
    refine qN ?_;refine qC ?_;refine qB ?_;refine qM ?_;exact errA_eq (n:=0) (by unfold yR;rw [if_pos h3,if_neg (by omega)])
theorem check_cases (f : Fld) : yR f = 5 ∨ yR f = 6 ∨ yR f = 0:=by
  unfold yR;split <;> (try split) <;> simp
theorem check_v (f : Fld) (n : Int) (hk : f.1.size ≤ 1000000000) (h : yR f = n) : qW Tryz.prog 151 [.agg (toL rFld f)] (.one (errA n)):=by
  subst h;exact check_c f hk
theorem stuffed_c (s : ByteArray) (hs : s.size ≤ 1000000) : qW Tryz.prog 171 [is s] (is (bytes (yX s.data.toList))):=by
  have hz:=qY s;have he : (⟨(Lib.trimS s.data.toList [32,9]).toArray⟩ : ByteArray) = ⟨#[]⟩ ↔ s.data.toList.all xT = true:=by
    rw [emp,← trim_nil];show (bytes (Lib.trimS s.data.toList [32,9])).data.toList.length = 0 ↔ _;rw [yA];exact ⟨List.eq_nil_of_length_eq_zero,fun h=>by rw [h];rfl⟩
  refine qT (rs:=[2]) Tryz.func171 rfl rfl rfl teOk rfl ?_;refine qC ?_;refine qB ?_;refine qC ?_;refine qC ?_;refine qB ?_;refine Or.inl ?_;refine zai (rfl) ?_;refine zei _ (zai (trimS_c _ _ (by decide) (by decide) (by omega)) ?_);refine zai (fun h=>trivial) ?_;refine Or.inl ?_;refine zai (rfl) ?_;refine zei _ (zai (fun h=>⟨⟨⟨h,trivial⟩,trivial⟩,hasPrefix_c _ _⟩) ?_);refine zai (by first|(intro h;rw [h];rfl)|(intro h;cases h)) ?_;refine qK rfl (fun h9=>?_) (fun h9=>?_)
  ·try simp only [decide_eq_true_eq,Bool.or_eq_true] at h9
   try simp only [zds] at h9
   have hq : (s.data.toList.all xT || Lib.hasPrefix s.data.toList [46]) = true:=by rw [Bool.or_eq_true];exact h9.imp he.1 id
   refine qC ?_;refine qB ?_;refine zai (by (have hk0 : ByteArray.size { data:=#[46] } = 1:=rfl;first|(unfold maxLen;omega)|(simp only [ByteArray.size_append];omega)|(unfold maxLen;(try simp only [ByteArray.size_append]);omega))) ?_;refine qM ?_;refine is_eq ?_;unfold yX;rw [if_pos hq,show (46 :: s.data.toList) = [46] ++ s.data.toList from rfl,xK,show bytes s.data.toList = s from xR s];rfl
  ·try simp only [decide_eq_false_iff_not,Bool.or_eq_false_iff] at h9
   try simp only [zds] at h9
   have hq : ¬ (s.data.toList.all xT || Lib.hasPrefix s.data.toList [46]) = true:=by rw [Bool.or_eq_true];exact fun e=>e.elim (fun e=>h9.1 (he.2 e)) (fun e=>by rw [h9.2] at e;cases e)
   refine qN ?_;refine qC ?_;refine qB ?_;refine qM ?_;refine is_eq ?_;unfold yX;rw [if_neg hq];exact (xR s).symm
theorem cut_v (s p : ByteArray) (l : List UInt8) (c : List UInt8 × List UInt8 × Bool) (hl : p.data.toList = l) (hc : Lib.cut s.data.toList l = c) (hs : s.size < 4294967281) : qW Tryz.prog 114 [is s,is p] (.tup [(false,[.lit (.string (bytes c.1))]),(false,[.lit (.string (bytes c.2.1))]),(false,[.lit (.bool c.2.2)])]):=by
  subst hl hc;exact cut_c s p hs
theorem cut_len (l sep : List UInt8) : (Lib.cut l sep).1.length ≤ l.length ∧ (Lib.cut l sep).2.1.length ≤ l.length:=by
  unfold Lib.cut;split
  · simp only [List.length_take,List.length_drop];omega
  · exact ⟨Nat.le_refl _,Nat.zero_le _⟩
theorem kind_c (s : ByteArray) (hs : s.size ≤ 1000000000) : qW Tryz.prog 115 [is s] (ii .i64 (qZ s.data.toList)):=by
  have hz:=qY s;obtain ⟨c,hc⟩ : ∃ c,Lib.cut s.data.toList [58] = c:=⟨_,rfl⟩;have hcl : (bytes c.1).size ≤ 1000000000:=by rw [yI,← hc];have:=(cut_len s.data.toList [58]).1;omega
  have he : (⟨(Lib.trimS s.data.toList [32,9]).toArray⟩ : ByteArray) = ⟨#[]⟩ ↔ s.data.toList.all xT = true:=by
    rw [emp,← trim_nil];show (bytes (Lib.trimS s.data.toList [32,9])).data.toList.length = 0 ↔ _;rw [yA];exact ⟨List.eq_nil_of_length_eq_zero,fun h=>by rw [h];rfl⟩
  have hcon : Lib.contains s.data.toList [10] = decide (10 ∈ s.data.toList):=contains_one _ _;refine qT (rs:=[2]) Tryz.func115 rfl rfl rfl teOk rfl ?_;refine qC ?_;refine qB ?_;refine qC ?_;refine qP ?_;refine qC ?_;refine qB ?_;refine Or.inl ?_;refine zai (rfl) ?_;refine zei _ (zai (contains_c _ _ (by omega)) ?_);refine qK rfl (fun h6=>?_) (fun h6=>?_)
  ·skip
   have hm : 10 ∈ s.data.toList:=of_decide_eq_true (hcon ▸ h6);refine qC ?_;refine qB ?_;refine qM ?_;refine qU ?_;unfold qZ;rw [if_pos hm]
  ·skip
   have hm : 10 ∉ s.data.toList:=of_decide_eq_false (hcon ▸ h6);refine qC ?_;refine qB ?_;refine Or.inl ?_;refine zai (rfl) ?_;refine zei _ (zai (trimS_c _ _ (by decide) (by decide) (by omega)) ?_);refine qK rfl (fun h9=>?_) (fun h9=>?_)
   ·try simp only [decide_eq_true_eq] at h9
    try simp only [zds] at h9
    rw [he] at h9;refine qC ?_;refine qB ?_;refine qM ?_;refine qU ?_;unfold qZ;rw [if_neg hm,if_pos h9]
   ·try simp only [decide_eq_false_iff_not] at h9
    try simp only [zds] at h9
    rw [he] at h9;refine qC ?_;refine qB ?_;refine Or.inl ?_;refine zai (rfl) ?_;refine zei _ (zai (hasPrefix_c _ _) ?_);refine qK rfl (fun h13=>?_) (fun h13=>?_)
    ·skip
     refine qC ?_;refine qB ?_;refine qM ?_;refine qU ?_;unfold qZ;rw [if_neg hm,if_neg h9,if_pos h13]
    ·skip
     refine qC ?_;refine qB ?_;refine Or.inl ?_;refine zai (rfl) ?_;refine zei _ (zai (blank_c _ hs) ?_);refine qK rfl (fun h16=>?_) (fun h16=>?_)
     ·try simp only [zbq] at h16
      try simp only [zds] at h16
      refine qC ?_;refine qB ?_;refine qM ?_;refine qU ?_;unfold qZ;rw [if_neg hm,if_neg h9,if_neg (by rw [Bool.not_eq_true];exact h13),if_pos h16]
     ·try simp only [zbq] at h16
      try simp only [zds] at h16
      refine qN ?_;refine qC ?_;refine qC ?_;refine qB ?_;refine Or.inl ?_;refine zai (rfl) ?_;refine zei _ (zai (cut_v _ _ [58] c rfl hc (by omega)) ?_);refine qC ?_;refine qB ?_;refine zai (fun h=>trivial) ?_;refine Or.inl ?_;refine zai (rfl) ?_;refine zei _ (zai (fun h=>⟨⟨⟨h,trivial⟩,trivial⟩,key_c _ hcl⟩) ?_);refine zai (by exact fun h=>h) ?_;refine qK rfl (fun h29=>?_) (fun h29=>?_)
      ·try simp only [Bool.and_eq_true] at h29
       try simp only [zds] at h29
       refine qC ?_;refine qB ?_;refine qM ?_;refine qU ?_;unfold qZ;rw [if_neg hm,if_neg h9,if_neg (by rw [Bool.not_eq_true];exact h13),if_neg (by rw [Bool.not_eq_true];exact h16),hc,if_pos (by rw [Bool.and_eq_true];rw [yA] at h29;exact h29)]
      ·try simp only [Bool.and_eq_false_iff] at h29
       try simp only [zds] at h29
       refine qN ?_;refine qC ?_;refine qB ?_;refine qM ?_;refine qU ?_;unfold qZ;rw [if_neg hm,if_neg h9,if_neg (by rw [Bool.not_eq_true];exact h13),if_neg (by rw [Bool.not_eq_true];exact h16),hc,if_neg (by rw [Bool.not_eq_true,Bool.and_eq_false_iff];rw [yA] at h29;exact h29)]
def cutL (l : List UInt8) : List UInt8 × List UInt8 × Bool:=if qZ l = 4 then Lib.cut l [58] else ([],[],false)
def cutA (c : List UInt8 × List UInt8 × Bool) : A:=.tup [(false,[.lit (.string (bytes c.1))]),(false,[.lit (.string (bytes c.2.1))]),(false,[.lit (.bool c.2.2)])]
theorem cutA_eq {c c' : List UInt8 × List UInt8 × Bool} (h : c = c') : cutA c = cutA c':=by rw [h]
theorem lcut_c (s : ByteArray) (hs : s.size ≤ 1000000000) : qW Tryz.prog 166 [is s] (cutA (cutL s.data.toList)):=by
  refine qT (rs:=[2,3,4]) Tryz.func166 rfl rfl rfl teOk rfl ?_;refine qC ?_;refine qB ?_;refine qC ?_;refine qC ?_;refine qB ?_;refine Or.inl ?_;refine zai (rfl) ?_;refine zei _ (zai (kind_c s hs) ?_);refine qK rfl (fun h7=>?_) (fun h7=>?_)
  ·try simp only [decide_eq_false_iff_not,Bool.not_eq_true'] at h7
   try simp only [zds] at h7
   refine qC ?_;refine qB ?_;refine qM ?_;exact cutA_eq (c:=([],[],false)) (by unfold cutL;rw [if_neg h7])
  ·try simp only [decide_eq_true_eq,Bool.not_eq_false'] at h7
   try simp only [zds] at h7
   refine qN ?_;refine qC ?_;refine qB ?_;refine Or.inl ?_;refine zai (rfl) ?_;refine zei _ (zai (cut_v _ _ [58] _ rfl rfl (by omega)) ?_);refine qM ?_;exact cutA_eq (c:=Lib.cut s.data.toList [58]) (by unfold cutL;rw [if_pos h7])
end Q
end Ab
end Go.Proofs.YtlbainbjlibfiaaGreatDoor
namespace Go.Proofs.YtlbainbjlibfiaaGreatDoor
open Go.RowKit
namespace Ab
set_option maxRecDepth 100000
namespace Q
theorem refCheck_c (f : Fld) (hk : f.1.size ≤ 1000000000) : qW Tryz.prog 129 [.agg (toL rFld f)] (ii .i64 (yR f)):=by
  refine qT (rs:=[2]) Tryz.func129 rfl rfl rfl teOk rfl ?_;refine qC ?_;refine qB ?_;refine qC ?_;refine qC ?_;refine qB ?_;refine Or.inl ?_;refine zai (rfl) ?_;refine zei _ (zai (refKey_c _ hk) ?_);refine qK rfl (fun h6=>?_) (fun h6=>?_)
  ·try simp only [Bool.not_eq_true'] at h6
   try simp only [zds] at h6
   refine qC ?_;refine qB ?_;refine qM ?_;refine qU ?_;unfold yR;rw [if_neg (by rw [h6];decide)]
  ·try simp only [Bool.not_eq_false'] at h6
   try simp only [zds] at h6
   refine qN ?_;refine qC ?_;refine qC ?_;refine qB ?_;refine qK rfl (fun h10=>?_) (fun h10=>?_)
   ·try simp only [decide_eq_true_eq] at h10
    try simp only [zds] at h10
    refine qC ?_;refine qB ?_;refine qM ?_;refine qU ?_;unfold yR;rw [if_pos h6,if_pos (by omega)]
   ·try simp only [decide_eq_false_iff_not,Int.not_lt] at h10
    try simp only [zds] at h10
    refine qN ?_;refine qC ?_;refine qB ?_;refine qM ?_;refine qU ?_;unfold yR;rw [if_pos h6,if_neg (by omega)]
def refCutL (l : List UInt8) : List UInt8 × List UInt8 × Bool:=if 10 ∈ l then ([],[],false) else if ((Lib.cut l [58]).2.2 && keyOk (Lib.cut l [58]).1) = true then Lib.cut l [58] else ([],[],false)
theorem cut_first {l : List UInt8} {c : UInt8} {i : Nat} (hi : i < l.length) (hc : l.getD i 0 = c) (hn : c ∉ l.take i) : Lib.cut l [c] = (l.take i,l.drop (i + 1),true):=by
  have : l = l.take i ++ c :: l.drop (i + 1):=by
    conv=>lhs;rw [← List.take_append_drop i l,drop_cons hi,hc]
  conv=>lhs;rw [this]
  exact cut_at hn
theorem cut_none {l : List UInt8} {c : UInt8} (h : c ∉ l) : Lib.cut l [c] = (l,[],false):=by
  have hi : Lib.index l [c] = -1:=Lib.index_none fun j _=>Bool.eq_false_iff.2 fun e=>h (List.mem_of_getElem? ((occ_one _ _ _).1 e))
  unfold Lib.cut;rw [hi,if_neg (by omega)]
theorem refKey_v (s : ByteArray) (l : List UInt8) (hl : s.data.toList = l) (hs : l.length ≤ 1000000000) : qW Tryz.prog 149 [is s] (ib (keyOk l)):=by
  subst hl;exact refKey_c s (by rw [qY];exact hs)
theorem tup3_eq {a a' b b' : ByteArray} {c : Bool} (h1 : a = a') (h2 : b = b') : A.tup [(false,[.lit (.string a)]),(false,[.lit (.string b)]),(false,[.lit (.bool c)])] = A.tup [(false,[.lit (.string a')]),(false,[.lit (.string b')]),(false,[.lit (.bool c)])]:=by rw [h1,h2]
theorem refCut_c (s : ByteArray) (hs : s.size ≤ 1000000000) : qW Tryz.prog 127 [is s] (cutA (refCutL s.data.toList)):=by
  have hz:=qY s;refine qT (rs:=[2,3,4]) Tryz.func127 rfl rfl rfl teOk rfl ?_;refine qC ?_;refine qB ?_;refine qC ?_;refine qC ?_;refine qB ?_;refine qP ?_;refine qV (fun (i : Nat)=>i ≤ s.size ∧ 10 ∉ s.data.toList.take i) (fun (i : Nat)=>[(0,is s),(5,ii .i64 i)]) (fun (i : Nat)=>[]) 0 (fun (i : Nat)=>s.size - i) 0 (⟨Nat.zero_le _,by simp⟩) (qQ ⟨rfl,rfl⟩ trivial rfl) ?_;intro i hI0;obtain ⟨hi,h1⟩:=hI0;refine qC ?_;refine qC ?_;refine qB ?_;refine qK rfl (fun h10=>?_) (fun h10=>?_)
  ·try simp only [decide_eq_true_eq] at h10
   try simp only [zds] at h10
   have hlt : i < s.data.toList.length:=by omega
   refine qN ?_;refine qC ?_;refine qP ?_;refine qC ?_;refine qB ?_;refine zai (by first|omega|assumption|decide|(simp only [zds];omega)|(simp <;> omega)) ?_;refine qK rfl (fun h16=>?_) (fun h16=>?_)
   ·try simp only [decide_eq_true_eq] at h16
    try simp only [Int.toNat_natCast] at h16
    have hm : 10 ∈ s.data.toList:=(show s.data.toList.getD i 0 = 10 from u8_eq h16) ▸ yK hlt 0;refine qC ?_;refine qB ?_;refine qM ?_;exact cutA_eq (c:=([],[],false)) (by unfold refCutL;rw [if_pos hm])
   ·try simp only [decide_eq_false_iff_not] at h16
    try simp only [Int.toNat_natCast] at h16
    have hne : s.data.toList.getD i 0 ≠ 10:=fun e=>h16 (by rw [e];rfl)
    refine qN ?_;refine qB ?_;refine zai (by first|omega|assumption|decide|(simp only [zds];omega)|(simp <;> omega)) ?_;exact ⟨i + 1,⟨by omega,notin_snoc hlt h1 hne⟩,by first|omega|(simp <;> omega),qQ ⟨rfl,(qU (by omega))⟩ trivial rfl⟩
  ·try simp only [decide_eq_false_iff_not,Int.not_lt] at h10
   try simp only [zds] at h10
   rw [List.take_of_length_le (by omega)] at h1;refine qX ?_;refine qC ?_;refine qC ?_;refine qB ?_;refine qP ?_;refine qV (fun (k : Nat)=>k ≤ s.size ∧ 58 ∉ s.data.toList.take k) (fun (k : Nat)=>[(0,is s),(6,ii .i64 k)]) (fun (k : Nat)=>[]) 0 (fun (k : Nat)=>s.size - k) 0 (⟨Nat.zero_le _,by simp⟩) (qQ ⟨rfl,rfl⟩ trivial rfl) ?_;intro k hI2;obtain ⟨hk,h2⟩:=hI2;refine qC ?_;refine qC ?_;refine qB ?_;refine qK rfl (fun h20=>?_) (fun h20=>?_)
   ·try simp only [decide_eq_true_eq] at h20
    try simp only [zds] at h20
    have hlt2 : k < s.data.toList.length:=by omega
    refine qN ?_;refine qC ?_;refine qP ?_;refine qC ?_;refine qB ?_;refine zai (by first|omega|assumption|decide|(simp only [zds];omega)|(simp <;> omega)) ?_;refine qK rfl (fun h26=>?_) (fun h26=>?_)
    ·try simp only [decide_eq_true_eq] at h26
     try simp only [Int.toNat_natCast] at h26
     have hcut:=cut_first hlt2 (show s.data.toList.getD k 0 = 58 from u8_eq h26) h2;refine qC ?_;refine qC ?_;refine qB ?_;refine zai (by first|omega|assumption|decide|(simp only [zds];omega)|(simp <;> omega)) ?_;refine Or.inl ?_;refine zai (rfl) ?_;refine zei _ (zai (refKey_v _ (s.data.toList.take k) (by rw [extract_ls,Int.toNat_natCast];simp) (by rw [List.length_take];omega)) ?_);refine qK rfl (fun h31=>?_) (fun h31=>?_)
     ·try simp only [Bool.not_eq_true'] at h31
      try simp only [zds] at h31
      refine qC ?_;refine qB ?_;refine qM ?_;exact cutA_eq (c:=([],[],false)) (by unfold refCutL;rw [if_neg h1,hcut,if_neg (by simp only [Bool.true_and];rw [h31];decide)])
     ·try simp only [Bool.not_eq_false'] at h31
      try simp only [zds] at h31
      refine qN ?_;refine qC ?_;refine acode_draw rfl (by kernel_rfl) ?_;refine zai (by first|omega|assumption|decide|(simp only [zds];omega)|(simp <;> omega)) ?_;refine zai (by first|omega|assumption|decide|(simp only [zds];omega)|(simp <;> omega)) ?_;refine zai (by first|omega|assumption|decide|(simp only [zds];omega)|(simp <;> omega)) ?_;refine qM ?_;rw [show refCutL s.data.toList = (s.data.toList.take k,s.data.toList.drop (k + 1),true) by unfold refCutL;rw [if_neg h1,hcut,if_pos (by simp only [Bool.true_and];exact h31)]];exact tup3_eq (ls_inj (by unfold ls;rw [extract_ls,Int.toNat_natCast];simp)) (ls_inj (by unfold ls;rw [extract_ls,show ((k : Int) + 1).toNat = k + 1 by omega,List.take_of_length_le (by rw [List.length_drop];omega)]))
    ·try simp only [decide_eq_false_iff_not] at h26
     try simp only [Int.toNat_natCast] at h26
     have hne2 : s.data.toList.getD k 0 ≠ 58:=fun e=>h26 (by rw [e];rfl)
     refine qN ?_;refine qB ?_;refine zai (by first|omega|assumption|decide|(simp only [zds];omega)|(simp <;> omega)) ?_;exact ⟨k + 1,⟨by omega,notin_snoc hlt2 h2 hne2⟩,by first|omega|(simp <;> omega),qQ ⟨rfl,(qU (by omega))⟩ trivial rfl⟩
   ·try simp only [decide_eq_false_iff_not,Int.not_lt] at h20
    try simp only [zds] at h20
    refine qX ?_;refine qC ?_;refine qB ?_;refine qM ?_;exact cutA_eq (c:=([],[],false)) (by unfold refCutL;rw [if_neg h1,cut_none (by rw [List.take_of_length_le (by omega)] at h2;exact h2),if_neg (by simp)])
end Q
end Ab
end Go.Proofs.YtlbainbjlibfiaaGreatDoor
namespace Go.Proofs.YtlbainbjlibfiaaGreatDoor
open Go.RowKit
namespace Ab
set_option maxRecDepth 100000
namespace Q
theorem refCut_v (s : ByteArray) (c : List UInt8 × List UInt8 × Bool) (hc : refCutL s.data.toList = c) (hs : s.size ≤ 1000000000) : qW Tryz.prog 127 [is s] (cutA c):=by
  subst hc;exact refCut_c s hs
theorem kind_tail {l : List UInt8} (h1 : 10 ∉ l) (hb : l.all xT = false) : qZ l = if l.getD 0 0 = 35 then 2 else if xT (l.getD 0 0) = true then 3 else if (refCutL l).2.2 = true then 4 else 5:=by
  cases l with
  | nil=>cases hb
  | cons c r =>
    have e : (refCutL (c :: r)).2.2 = ((Lib.cut (c :: r) [58]).2.2 && keyOk (Lib.cut (c :: r) [58]).1):=by
      unfold refCutL;rw [if_neg h1];split
      · rename_i h;rw [h];simp only [Bool.and_eq_true] at h;exact h.1
      · rename_i h;exact (Bool.not_eq_true _ ▸ h : _ = false).symm
    unfold qZ;rw [if_neg h1,if_neg (by rw [hb];decide),xU,e];simp [blankL]
theorem refKind_c (s : ByteArray) (hs : s.size ≤ 1000000000) : qW Tryz.prog 97 [is s] (ii .i64 (qZ s.data.toList)):=by
  have hz:=qY s;refine qT (rs:=[2]) Tryz.func97 rfl rfl rfl teOk rfl ?_;refine qC ?_;refine qB ?_;refine qC ?_;refine qB ?_;refine qC ?_;refine qC ?_;refine qB ?_;refine qP ?_;refine qV (fun (i : Nat)=>i ≤ s.size ∧ 10 ∉ s.data.toList.take i) (fun (i : Nat)=>[(0,is s),(3,ib ((s.data.toList.take i).all xT)),(4,ii .i64 i)]) (fun (i : Nat)=>[]) 0 (fun (i : Nat)=>s.size - i) 0 (⟨Nat.zero_le _,by simp⟩) (qQ ⟨rfl,rfl,rfl⟩ trivial rfl) ?_;intro i hI0;obtain ⟨hi,h1⟩:=hI0;refine qC ?_;refine qC ?_;refine qB ?_;refine qK rfl (fun h11=>?_) (fun h11=>?_)
  ·try simp only [decide_eq_true_eq] at h11
   try simp only [zds] at h11
   have hlt : i < s.data.toList.length:=by omega
   refine qN ?_;refine qC ?_;refine qP ?_;refine qC ?_;refine qC ?_;refine qB ?_;refine zai (by first|omega|assumption|decide|(simp only [zds];omega)|(simp <;> omega)) ?_;refine qK rfl (fun h17=>?_) (fun h17=>?_)
   ·try simp only [decide_eq_true_eq] at h17
    try simp only [Int.toNat_natCast] at h17
    have hm : 10 ∈ s.data.toList:=(show s.data.toList.getD i 0 = 10 from u8_eq h17) ▸ yK hlt 0;refine qC ?_;refine qB ?_;refine qM ?_;refine qU ?_;unfold qZ;rw [if_pos hm]
   ·try simp only [decide_eq_false_iff_not] at h17
    try simp only [Int.toNat_natCast] at h17
    have hne : s.data.toList.getD i 0 ≠ 10:=fun e=>h17 (by rw [e];rfl)
    refine qN ?_;refine qB ?_;refine zai (fun h=>trivial) ?_;refine zai (fun h=>trivial) ?_;refine zai (fun h=>⟨⟨⟨h,trivial⟩,⟨h,trivial⟩,trivial⟩,by first|omega|decide|(simp only [zds];omega)|(have h9:=of_decide_eq_true h;omega)|(simp [gq] at h;omega)⟩) ?_;refine Or.inl ?_;refine zai (rfl) ?_;refine zei _ (zai (fun h=>⟨⟨⟨h,trivial⟩,trivial⟩,refBlank_c (s.data.toList.getD i 0) _ rfl⟩) ?_);refine zai (by exact fun h=>h) ?_;refine qB ?_;refine zai (by first|omega|assumption|decide|(simp only [zds];omega)|(simp <;> omega)) ?_;exact ⟨i + 1,⟨by omega,notin_snoc hlt h1 hne⟩,by first|omega|(simp <;> omega),qQ ⟨rfl,(ib_eq (all_take_succ s.data.toList xT 0 i hlt).symm),(qU (by omega))⟩ trivial rfl⟩
  ·try simp only [decide_eq_false_iff_not,Int.not_lt] at h11
   try simp only [zds] at h11
   rw [List.take_of_length_le (by omega)] at h1 ⊢;refine qX ?_;refine qC ?_;refine qC ?_;refine qB ?_;refine qK rfl (fun h25=>?_) (fun h25=>?_)
   ·try simp only [zbq] at h25
    try simp only [zds] at h25
    refine qC ?_;refine qB ?_;refine qM ?_;refine qU ?_;unfold qZ;rw [if_neg h1,if_pos h25]
   ·try simp only [zbq] at h25
    try simp only [zds] at h25
    have hpos : 0 < s.data.toList.length:=Nat.pos_of_ne_zero fun h=>by rw [List.eq_nil_of_length_eq_zero h] at h25;cases h25
    refine qN ?_;refine qC ?_;refine qC ?_;refine qB ?_;refine zai (by first|omega|assumption|decide|(simp only [zds];omega)|(simp <;> omega)) ?_;refine qK rfl (fun h28=>?_) (fun h28=>?_)
    ·try simp only [decide_eq_true_eq] at h28
     try simp only [zds] at h28
     refine qC ?_;refine qB ?_;refine qM ?_;refine qU ?_;rw [kind_tail h1 h25,if_pos (u8_eq h28)]
    ·try simp only [decide_eq_false_iff_not] at h28
     try simp only [zds] at h28
     refine qN ?_;refine qC ?_;refine qC ?_;refine qB ?_;refine zai (by first|omega|assumption|decide|(simp only [zds];omega)|(simp <;> omega)) ?_;refine Or.inl ?_;refine zai (rfl) ?_;refine zei _ (zai (refBlank_c (s.data.toList.getD 0 0) _ rfl) ?_);refine qK rfl (fun h31=>?_) (fun h31=>?_)
     ·try simp only [zbq] at h31
      try simp only [zds] at h31
      refine qC ?_;refine qB ?_;refine qM ?_;refine qU ?_;rw [kind_tail h1 h25,if_neg (fun e=>h28 (by rw [show s.data.toList.getD (Int.toNat 0) 0 = 35 from e];rfl)),if_pos h31]
     ·try simp only [zbq] at h31
      try simp only [zds] at h31
      refine qN ?_;refine qC ?_;refine qC ?_;refine qB ?_;refine Or.inl ?_;refine zai (rfl) ?_;refine zei _ (zai (refCut_v s _ rfl hs) ?_);refine qC ?_;refine qB ?_;refine qK rfl (fun h38=>?_) (fun h38=>?_)
      ·try simp only [zbq] at h38
       try simp only [zds] at h38
       refine qC ?_;refine qB ?_;refine qM ?_;refine qU ?_;rw [kind_tail h1 h25,if_neg (fun e=>h28 (by rw [show s.data.toList.getD (Int.toNat 0) 0 = 35 from e];rfl)),if_neg (by rw [h31];decide),if_pos h38]
      ·try simp only [zbq] at h38
       try simp only [zds] at h38
       refine qN ?_;refine qC ?_;refine qB ?_;refine qM ?_;refine qU ?_;rw [kind_tail h1 h25,if_neg (fun e=>h28 (by rw [show s.data.toList.getD (Int.toNat 0) 0 = 35 from e];rfl)),if_neg (by rw [h31];decide),if_neg (by rw [h38];decide)]
end Q
end Ab
end Go.Proofs.YtlbainbjlibfiaaGreatDoor
namespace Go.Proofs.YtlbainbjlibfiaaGreatDoor
open Go.RowKit
namespace Ab
set_option maxRecDepth 100000
namespace Q
def xM (key v : ByteArray) : List ByteArray:=(xX key.data.toList v.data.toList).map bytes
theorem check_ok {f : Fld} (h : yR f = 0) : keyOk f.1.data.toList = true ∧ f.2.size ≤ 1000 ∧ f.1.size ≤ 32:=by
  unfold yR at h;split at h
  · rename_i hk;split at h
    · cases h
    · refine ⟨hk,by omega,?_⟩;have:=hk;unfold keyOk at this;simp only [Bool.and_eq_true,decide_eq_true_eq] at this;rw [qY];exact this.1.1.1.1.2
  · cases h
theorem stuff_len (s : List UInt8) : (yX s).length ≤ s.length + 1:=by
  unfold yX;split <;> simp
def linesA (f : Fld) : A:=if yR f = 0 then .tup [(false,[.sl .str (xM f.1 f.2)]),(false,[.lit .nilIface])] else .tup [(false,[.sl .str []]),(false,[errN (yR f)])]
theorem linesA_bad {f : Fld} {n : Int} (h : yR f = n) (hn : n ≠ 0) : linesA f = .tup [(false,[.sl .str []]),(false,[errN n])]:=by
  unfold linesA;rw [if_neg (by rw [h];exact hn),h]
theorem linesA_ok {f : Fld} (h : yR f = 0) : linesA f = .tup [(false,[.sl .str (xM f.1 f.2)]),(false,[.lit .nilIface])]:=by
  unfold linesA;rw [if_pos h]
theorem stuffed_v (s : ByteArray) (l : List UInt8) (hl : s.data.toList = l) (hs : l.length ≤ 1000000) : qW Tryz.prog 171 [is s] (is (bytes (yX l))):=by
  subst hl;exact stuffed_c s (by rw [qY];exact hs)
theorem first_b (k p : ByteArray) (h : ¬ p = ⟨#[]⟩) : (k ++ (⟨#[58]⟩ : ByteArray)) ++ ((⟨#[32]⟩ : ByteArray) ++ p) = bytes (xP k.data.toList p.data.toList):=by
  have hp : p.data.toList ≠ []:=fun e=>h (emp.2 (by rw [e];rfl))
  unfold xP;rw [if_neg hp,xK,xK,show (32 :: p.data.toList) = [32] ++ p.data.toList from rfl,xK,show bytes k.data.toList = k from xR k,show bytes p.data.toList = p from xR p];rfl
theorem first_e (k p : ByteArray) (h : p = ⟨#[]⟩) : k ++ (⟨#[58]⟩ : ByteArray) = bytes (xP k.data.toList p.data.toList):=by
  have hp : p.data.toList = []:=by rw [h]
  unfold xP;rw [if_pos hp,List.append_nil,xK,show bytes k.data.toList = k from xR k];rfl
theorem tupS_eq {xs ys : List ByteArray} (h : xs = ys) : A.tup [(false,[.sl .str xs]),(false,[.lit .nilIface])] = A.tup [(false,[.sl .str ys]),(false,[.lit .nilIface])]:=by rw [h]
theorem lineB_eq {key v : ByteArray} {ws : List ByteArray} (hsp : ws.map ls = yP v.data.toList) (hpos : 0 < ws.length) : bytes (xP key.data.toList (ws.getD 0 ByteArray.empty).data.toList) :: (ws.drop 1).map (fun s=>bytes (32 :: yX s.data.toList)) = xM key v:=by
  unfold xM xX;rw [← hsp];cases ws with
  | nil=>cases hpos
  | cons w r=>simp [ls]
theorem lines_c (f : Fld) (hk : f.1.size ≤ 1000000) (hv : f.2.size ≤ 1000000) : qW Tryz.prog 152 [.agg (toL rFld f)] (linesA f):=by
  obtain ⟨ws,hws⟩ : ∃ ws,Lib.splitB ⟨#[10]⟩ 0 (Lib.countB f.2 ⟨#[10]⟩) f.2 = ws:=⟨_,rfl⟩;have hsz : ∀ x ∈ ws,x.size ≤ 1000000:=fun x hx=>Nat.le_trans (split_size _ _ _ x (hws ▸ hx)) hv
  have hlen : ws.length ≤ f.2.size + 1:=by rw [← hws];exact split_len _ _ (by decide)
  have hsp : ws.map ls = yP f.2.data.toList:=by rw [← hws];exact split_ls _ _
  have hpos : 0 < ws.length:=by
    have:=split_ne f.2.data.toList [10];rw [← List.length_map (f:=ls),hsp];exact List.length_pos_iff.2 this
  refine qT (rs:=[2,3]) Tryz.func152 rfl rfl rfl teOk rfl ?_;refine qC ?_;refine qB ?_;refine qC ?_;refine qC ?_;rcases check_cases f with hc|hc|hc
  ·refine qB ?_;refine Or.inl ?_;refine zai (rfl) ?_;refine zei _ (zai ((check_v f 5 (by omega) hc : qW _ _ _ (.one (errN 5)))) ?_);refine qC ?_;refine qB ?_;refine qK rfl (fun h12=>?_) (fun h12=>?_)
   ·skip
    refine qC ?_;refine qB ?_;refine xA 2 9 .str rfl ?_;refine qM ?_;rw [linesA_bad hc (by decide)];rfl
   ·try simp only [zbq] at h12
    try simp only [zds] at h12
    cases h12
  ·refine qB ?_;refine Or.inl ?_;refine zai (rfl) ?_;refine zei _ (zai ((check_v f 6 (by omega) hc : qW _ _ _ (.one (errN 6)))) ?_);refine qC ?_;refine qB ?_;refine qK rfl (fun h12=>?_) (fun h12=>?_)
   ·skip
    refine qC ?_;refine qB ?_;refine xA 2 9 .str rfl ?_;refine qM ?_;rw [linesA_bad hc (by decide)];rfl
   ·try simp only [zbq] at h12
    try simp only [zds] at h12
    cases h12
  ·refine qB ?_;refine Or.inl ?_;refine zai (rfl) ?_;refine zei _ (zai ((check_v f 0 (by omega) hc : qW _ _ _ (.one (.lit .nilIface)))) ?_);refine qC ?_;refine qB ?_;refine qK rfl (fun h12=>?_) (fun h12=>?_)
   ·try simp only [Bool.not_eq_true'] at h12
    try simp only [zds] at h12
    cases h12
   ·try simp only [Bool.not_eq_false'] at h12
    try simp only [zds] at h12
    have hdl : (ws.drop 1).length = ws.length - 1:=List.length_drop;obtain ⟨hko,hv1,hk1⟩:=check_ok hc;obtain ⟨p0,hp0⟩ : ∃ p,ws.getD 0 ByteArray.empty = p:=⟨_,rfl⟩;have hp0s : p0.size ≤ 1000000:=by rw [← hp0];exact hsz _ (yK hpos _)
    refine qN ?_;refine qC ?_;refine qB ?_;refine Or.inl ?_;refine zai (rfl) ?_;refine zei _ (zai (split_v f.2 ⟨#[10]⟩ ws hws (by omega) (by decide)) ?_);refine qC ?_;refine qB ?_;refine zai (by (have hk0 : ByteArray.size { data:=#[58] } = 1:=rfl;first|(unfold maxLen;omega)|(simp only [ByteArray.size_append];omega)|(unfold maxLen;(try simp only [ByteArray.size_append]);omega))) ?_;refine acode_cut (fun (u : Unit)=>True) (fun (u : Unit)=>[(5,.one (.sl .str ws)),(6,.one (.vec 1))]) (fun (u : Unit)=>[(1,.vec 9 .str [bytes (xP f.1.data.toList p0.data.toList)])]) 2 ?_ ?_
    ·refine qC ?_;refine qB ?_;refine zai (by first|omega|assumption|decide|(simp only [zds];omega)|(simp <;> omega)) ?_;refine qK rfl (fun h24=>?_) (fun h24=>?_)
     ·try simp only [decide_eq_false_iff_not,Bool.not_eq_true'] at h24
      try simp only [qF] at h24
      have hq : (ws.getD (Int.toNat 0) (Rd.str).dflt).size ≤ 1000000:=hsz _ (yK hpos _);have hk2 : ([f.1 ++ (⟨#[58]⟩ : ByteArray)].getD (Int.toNat 0) (Rd.str).dflt).size ≤ 1000:=by show (f.1 ++ (⟨#[58]⟩ : ByteArray)).size ≤ _;rw [ByteArray.size_append,show ByteArray.size ⟨#[58]⟩ = 1 from rfl];omega
      refine yH rfl ?_;refine qJ 0 rfl rfl rfl (by kernel_rfl) ?_;refine qJ 1 rfl rfl rfl (by kernel_rfl) ?_;refine zai (by first|omega|assumption|decide|(simp only [zds];omega)|(simp <;> omega)) ?_;refine qJ 3 rfl rfl rfl (by kernel_rfl) ?_;refine qJ 4 rfl rfl rfl (by kernel_rfl) ?_;refine zai (by first|omega|assumption|decide|(simp only [zds];omega)|(simp <;> omega)) ?_;refine qE [2,5] (by kernel_rfl) rfl ?_;refine zai ?_ ?_
      ·refine zai (by exact Nat.zero_lt_one) ?_;refine qE [5] (by kernel_rfl) rfl ?_;refine qJ 6 rfl rfl rfl (by kernel_rfl) ?_;refine zai (by (have hk0 : ByteArray.size { data:=#[32] } = 1:=rfl;first|(unfold maxLen;omega)|(simp only [ByteArray.size_append];omega)|(unfold maxLen;(try simp only [ByteArray.size_append]);omega))) ?_;refine qJ 7 rfl rfl rfl (by kernel_rfl) ?_;refine zai (by (have hk0 : ByteArray.size { data:=#[32] } = 1:=rfl;first|(unfold maxLen;omega)|(simp only [ByteArray.size_append];omega)|(unfold maxLen;(try simp only [ByteArray.size_append]);omega))) ?_;refine qJ 8 rfl rfl rfl (by kernel_rfl) ?_;refine zai (by first|omega|assumption|decide|(simp only [zds];omega)|(simp <;> omega)) ?_;refine qE [9] (by kernel_rfl) rfl ?_;refine zai (by exact Nat.zero_lt_one) ?_;refine qO (by kernel_rfl) ?_;exact ⟨(),trivial,qQ ⟨rfl,rfl⟩ (qS (congrArg (fun x=>[x]) (by rw [← hp0];exact first_b _ _ h24))) rfl⟩
      ·refine qJ 6 rfl rfl rfl (by kernel_rfl) ?_;refine zai (by (have hk0 : ByteArray.size { data:=#[32] } = 1:=rfl;first|(unfold maxLen;omega)|(simp only [ByteArray.size_append];omega)|(unfold maxLen;(try simp only [ByteArray.size_append]);omega))) ?_;refine qE [2] (by kernel_rfl) rfl ?_;refine zai (by exact Nat.zero_lt_one) ?_;refine qJ 7 rfl rfl rfl (by kernel_rfl) ?_;refine zai (by (have hk0 : ByteArray.size { data:=#[32] } = 1:=rfl;first|(unfold maxLen;omega)|(simp only [ByteArray.size_append];omega)|(unfold maxLen;(try simp only [ByteArray.size_append]);omega))) ?_;refine qJ 8 rfl rfl rfl (by kernel_rfl) ?_;refine zai (by first|omega|assumption|decide|(simp only [zds];omega)|(simp <;> omega)) ?_;refine qE [9] (by kernel_rfl) rfl ?_;refine zai (by exact Nat.zero_lt_one) ?_;refine qO (by kernel_rfl) ?_;exact ⟨(),trivial,qQ ⟨rfl,rfl⟩ (qS (congrArg (fun x=>[x]) (by rw [← hp0];exact first_b _ _ h24))) rfl⟩
     ·try simp only [decide_eq_true_eq,Bool.not_eq_false'] at h24
      try simp only [qF] at h24
      refine qN ?_;exact ⟨(),trivial,qQ ⟨rfl,rfl⟩ (qS (congrArg (fun x=>[x]) (by rw [← hp0];exact first_e _ _ h24))) rfl⟩
    ·intro u hcut8;refine qC ?_;refine qC ?_;refine qB ?_;refine zai (by first|omega|assumption|decide|(simp only [zds];omega)|(simp <;> omega)) ?_;intro l8_2
     try simp only [zds] at l8_2
     refine qP ?_;refine qV (fun (i : Nat)=>i ≤ (ws.drop 1).length) (fun (i : Nat)=>[(6,.one (.vec 1)),(35,.one (.sl .str (ws.drop 1))),(36,ii .i64 (ws.drop 1).length),(37,ii .i64 i)]) (fun (i : Nat)=>[(1,.vec 9 .str (bytes (xP f.1.data.toList p0.data.toList) :: ((ws.drop 1).take i).map fun s=>bytes (32 :: yX s.data.toList)))]) 2 (fun (i : Nat)=>(ws.drop 1).length - i) 0 (Nat.zero_le _) (qQ ⟨rfl,(sl_eq rfl),(qU rfl),rfl⟩ rfl rfl) ?_;intro i hI0;have hi:=hI0;refine qC ?_;refine qB ?_;refine qC ?_;refine qK rfl (fun h38=>?_) (fun h38=>?_)
     ·try simp only [decide_eq_true_eq] at h38
      try simp only [zds] at h38
      have hlt : i < (ws.drop 1).length:=by omega
      have hm : ((ws.drop 1).getD i ByteArray.empty).size ≤ 1000000:=hsz _ (List.mem_of_mem_drop (yK hlt _));have hst : (bytes (yX ((ws.drop 1).getD i ByteArray.empty).data.toList)).size ≤ 1000001:=by rw [yI];have:=stuff_len ((ws.drop 1).getD i ByteArray.empty).data.toList;rw [qY] at hm;omega
      refine qN ?_;refine qC ?_;refine qP ?_;refine qC ?_;refine qB ?_;refine zai (by first|omega|assumption|decide|(simp only [zds];omega)|(simp <;> omega)) ?_;refine qB ?_;refine Or.inl ?_;refine zai (rfl) ?_;refine zei _ (zai (stuffed_v _ _ rfl (by rw [← qY];exact hm)) ?_);refine zai (by unfold maxLen;rw [show ByteArray.size ⟨#[32]⟩ = 1 from rfl,Int.toNat_natCast];exact Nat.le_trans (Nat.add_le_add_left hst 1) (by decide)) ?_;refine zai (by show (_ + 1) * 16 ≤ 140737488355328;rw [List.length_cons,List.length_map,List.length_take];omega) ?_;refine qB ?_;refine zai (by first|omega|assumption|decide|(simp only [zds];omega)|(simp <;> omega)) ?_;exact ⟨i + 1,by omega,by first|omega|(simp <;> omega),qQ ⟨rfl,rfl,rfl,(qU (by omega))⟩ (qS (by rw [← map_snoc (fun s : ByteArray=>bytes (32 :: yX s.data.toList)) ByteArray.empty hlt,← List.cons_append,show bytes (32 :: yX ((ws.drop 1).getD i ByteArray.empty).data.toList) = bytes [32] ++ bytes (yX ((ws.drop 1).getD i ByteArray.empty).data.toList) from xK [32] _];rfl)) rfl⟩
     ·try simp only [decide_eq_false_iff_not,Int.not_lt] at h38
      try simp only [zds] at h38
      refine qX ?_;refine qC ?_;refine qB ?_;refine qM ?_;rw [linesA_ok hc];exact tupS_eq (by rw [List.take_of_length_le (by omega),← lineB_eq hsp hpos,hp0])
end Q
end Ab
end Go.Proofs.YtlbainbjlibfiaaGreatDoor
namespace Go.Proofs.YtlbainbjlibfiaaGreatDoor
open Go.RowKit
namespace Ab
set_option maxRecDepth 100000
namespace Q
def endL (ls : List (List UInt8)) : List UInt8:=ls.flatMap fun s=>s ++ [10]
def textL (f : Fld) : List UInt8:=endL (xX f.1.data.toList f.2.data.toList)
def foldL (l : List Fld) : List UInt8:=l.flatMap textL
def badF (l : List Fld) : Int:=match l with
  | []=>0
  | f :: r=>if yR f = 0 then badF r else yR f
theorem badF_ok : ∀ {l : List Fld},(∀ f ∈ l,yR f = 0) → badF l = 0
  | [],_=>rfl
  | f :: r,h=>by unfold badF;rw [if_pos (h f (by simp)),badF_ok fun g hg=>h g (by simp [hg])]
theorem badF_at : ∀ {l : List Fld} {i : Nat} (d : Fld),i < l.length → (∀ f ∈ l.take i,yR f = 0) → yR (l.getD i d) ≠ 0 → badF l = yR (l.getD i d)
  | f :: r,0,d,_,_,h=>by unfold badF;rw [if_neg (by simpa using h)];rfl
  | f :: r,i + 1,d,hi,ht,h=>by
    unfold badF;rw [if_pos (ht f (by simp)),badF_at d (by simpa using hi) (fun g hg=>ht g (by simp [hg])) (by simpa using h)];simp
theorem badF_zero : ∀ {l : List Fld},badF l = 0 → ∀ f ∈ l,yR f = 0
  | f :: r,h,g,hg=>by
    unfold badF at h;split at h
    · rename_i h0;rcases List.mem_cons.1 hg with rfl|hg
      · exact h0
      · exact badF_zero h g hg
    · rename_i h0;exact absurd h h0
theorem endL_snoc (ps : List (List UInt8)) (k : Nat) (h : k < ps.length) : endL (ps.take (k + 1)) = endL (ps.take k) ++ (ps.getD k [] ++ [10]):=by
  rw [← yO [] h];simp [endL]
theorem foldL_snoc (l : List Fld) (i : Nat) (d : Fld) (h : i < l.length) : foldL (l.take (i + 1)) = foldL (l.take i) ++ textL (l.getD i d):=by
  rw [← yO d h];simp [foldL]
theorem flat_le {α : Type} (g : α → List UInt8) (B : Nat) : ∀ l : List α,(∀ x ∈ l,(g x).length ≤ B) → (l.flatMap g).length ≤ l.length * B
  | [],_=>by simp
  | x :: l,h=>by
    rw [List.flatMap_cons,List.length_append,List.length_cons,Nat.succ_mul];have:=h x (by simp);have:=flat_le g B l fun y hy=>h y (by simp [hy])
    omega
theorem line_len {k v : List UInt8} (hk : k.length ≤ 32) (hv : v.length ≤ 1000) : (xX k v).length ≤ 2000 ∧ ∀ s ∈ xX k v,s.length ≤ 2000:=by
  have hp : ∀ p ∈ yP v,p.length ≤ v.length:=fun p hp=>split_mem hp
  have hl : (yP v).length ≤ v.length + 1:=by
    have:=split_len (bytes [10]) (bytes v) (by decide);have h2:=congrArg List.length (split_ls (bytes [10]) (bytes v));rw [List.length_map] at h2;rw [h2] at this;unfold ls at this;rw [yA,yA,yI] at this;exact this
  refine ⟨?_,fun s hs=>?_⟩
  · unfold xX;simp only [List.length_cons,List.length_map,List.length_drop];omega
  · unfold xX at hs;rcases List.mem_cons.1 hs with rfl|hs
    · unfold xP;have h0 : ((yP v).headD []).length ≤ v.length:=by
        cases e : yP v with
        | nil=>exact absurd e (split_ne v [10])
        | cons p ps=>rw [e] at hp;exact hp p (by simp)
      have h1 : (if (yP v).headD [] = [] then [] else 32 :: (yP v).headD [] : List UInt8).length ≤ ((yP v).headD []).length + 1:=by split <;> simp
      simp only [List.length_append,List.length_cons,List.length_nil];omega
    · obtain ⟨q,hq,rfl⟩:=List.mem_map.1 hs;have:=stuff_len q;have:=hp q (List.mem_of_mem_drop hq);simp only [List.length_cons];omega
theorem text_len {f : Fld} (h : yR f = 0) : (textL f).length ≤ 5000000 ∧ ∀ k,(endL ((xX f.1.data.toList f.2.data.toList).take k)).length ≤ 5000000:=by
  obtain ⟨_,h2,h3⟩:=check_ok h;rw [qY] at h2 h3;obtain ⟨h4,h5⟩:=line_len h3 h2;have : ∀ ps : List (List UInt8),ps.length ≤ 2000 → (∀ s ∈ ps,s.length ≤ 2000) → (endL ps).length ≤ 5000000:=fun ps hl hs=>by
    have:=flat_le (fun s : List UInt8=>s ++ [10]) 2001 ps (fun s h=>by have:=hs s h;simp;omega);unfold endL;have : ps.length * 2001 ≤ 2000 * 2001:=Nat.mul_le_mul_right _ hl;omega
  exact ⟨this _ h4 h5,fun k=>this _ (by rw [List.length_take];omega) fun s hs=>h5 s (List.mem_of_mem_take hs)⟩
def foldA (l : List Fld) : A:=if badF l = 0 then .tup [(false,[.lit (.string (bytes (foldL l)))]),(false,[.lit .nilIface])] else .tup [(false,[.lit (.string ⟨#[]⟩)]),(false,[errN (badF l)])]
theorem lineB_get {k v : ByteArray} {j : Nat} (h : j < (xM k v).length) : (xM k v).getD j ByteArray.empty = bytes ((xX k.data.toList v.data.toList).getD j []):=by
  unfold xM at *;rw [List.length_map] at h;rw [List.getD_eq_getElem?_getD,List.getElem?_map,List.getD_eq_getElem?_getD,List.getElem?_eq_getElem h];rfl
theorem fold_c {κ : Nat} (l : List Fld) (hl : xF l) : qW Tryz.prog 134 [.one (.slk κ rFld l)] (foldA l):=by
  have hln:=hl.1;refine qT (rs:=[2,3]) Tryz.func134 rfl rfl rfl teOk rfl ?_;refine qC ?_;refine qB ?_;refine qC ?_;refine qB ?_;refine qC ?_;refine qC ?_;refine acode_bld 0 5 (.int .u8) rfl ?_;refine qB ?_;intro l2_1
  try simp only [zds] at l2_1
  refine qP ?_;refine qV (fun (x : Nat × Bool)=>x.1 ≤ l.length ∧ ∀ f ∈ l.take x.1,yR f = 0) (fun (x : Nat × Bool)=>[(4,.one (.own 0 0)),(11,.one (.slk κ rFld l)),(12,ii .i64 l.length),(13,ii .i64 x.1)]) (fun (x : Nat × Bool)=>[(0,.box 219 [.nself x.2 0,.vec 1]),(1,.vec 5 (.int .u8) (xW (bytes (foldL (l.take x.1)))))]) 2 (fun (x : Nat × Bool)=>l.length - x.1) (0,false) (⟨Nat.zero_le _,by simp⟩) (qQ ⟨rfl,rfl,rfl,rfl⟩ ⟨rfl,rfl⟩ rfl) ?_;intro ⟨i,u⟩ hI0;simp only at hI0 ⊢;obtain ⟨hi,hall⟩:=hI0;refine qC ?_;refine qB ?_;refine qC ?_;refine qK rfl (fun h14=>?_) (fun h14=>?_)
  ·try simp only [decide_eq_true_eq] at h14
   try simp only [zds] at h14
   have hlt : i < l.length:=by omega
   have hm:=hl.2 _ (yK hlt (ByteArray.empty,ByteArray.empty));have hfl : (foldL (l.take i)).length ≤ 1000 * 5000000:=by refine Nat.le_trans (flat_le textL 5000000 _ fun f hf=>(text_len (hall f hf)).1) (Nat.mul_le_mul_right _ (by rw [List.length_take];omega))
   refine qN ?_;refine qC ?_;refine qP ?_;refine qC ?_;refine qB ?_;refine zai (by first|omega|assumption|decide|(simp only [zds];omega)|(simp <;> omega)) ?_;refine qC ?_;rcases check_cases (l.getD i (ByteArray.empty,ByteArray.empty)) with hc|hc|hc
   ·refine qB ?_;refine Or.inl ?_;refine zai (rfl) ?_;refine zei _ (zai ((by have:=lines_c (l.getD i (ByteArray.empty,ByteArray.empty)) hm.1 hm.2;rw [linesA_bad hc (by decide)] at this;exact this)) ?_);refine qC ?_;refine qC ?_;refine qB ?_;refine qK rfl (fun h23=>?_) (fun h23=>?_)
    ·skip
     refine qC ?_;refine qB ?_;refine qM ?_;have hb : badF l = 5:=by rw [badF_at (ByteArray.empty,ByteArray.empty) hlt hall (by rw [hc];decide),hc]
     unfold foldA;rw [if_neg (by rw [hb];decide),hb];rfl
    ·try simp only [zbq] at h23
     try simp only [zds] at h23
     cases h23
   ·refine qB ?_;refine Or.inl ?_;refine zai (rfl) ?_;refine zei _ (zai ((by have:=lines_c (l.getD i (ByteArray.empty,ByteArray.empty)) hm.1 hm.2;rw [linesA_bad hc (by decide)] at this;exact this)) ?_);refine qC ?_;refine qC ?_;refine qB ?_;refine qK rfl (fun h23=>?_) (fun h23=>?_)
    ·skip
     refine qC ?_;refine qB ?_;refine qM ?_;have hb : badF l = 6:=by rw [badF_at (ByteArray.empty,ByteArray.empty) hlt hall (by rw [hc];decide),hc]
     unfold foldA;rw [if_neg (by rw [hb];decide),hb];rfl
    ·try simp only [zbq] at h23
     try simp only [zds] at h23
     cases h23
   ·refine qB ?_;refine Or.inl ?_;refine zai (rfl) ?_;refine zei _ (zai ((by have:=lines_c (l.getD i (ByteArray.empty,ByteArray.empty)) hm.1 hm.2;rw [linesA_ok hc] at this;exact this)) ?_);refine qC ?_;refine qC ?_;refine qB ?_;refine qK rfl (fun h23=>?_) (fun h23=>?_)
    ·try simp only [Bool.not_eq_true'] at h23
     try simp only [zds] at h23
     cases h23
    ·try simp only [Bool.not_eq_false'] at h23
     try simp only [zds] at h23
     obtain ⟨ps,hps⟩ : ∃ ps,xM (l.getD i (ByteArray.empty,ByteArray.empty)).1 (l.getD i (ByteArray.empty,ByteArray.empty)).2 = ps:=⟨_,rfl⟩;refine qN ?_;refine qC ?_;refine qB ?_;intro l8_1
     try simp only [zds] at l8_1
     refine qP ?_;refine qV (fun (y : Nat × Bool)=>y.1 ≤ (xM (l.getD i (ByteArray.empty,ByteArray.empty)).1 (l.getD i (ByteArray.empty,ByteArray.empty)).2).length) (fun (y : Nat × Bool)=>[(4,.one (.own 0 0)),(11,.one (.slk κ rFld l)),(12,ii .i64 l.length),(13,ii .i64 i),(25,.one (.sl .str (xM (l.getD i (ByteArray.empty,ByteArray.empty)).1 (l.getD i (ByteArray.empty,ByteArray.empty)).2))),(26,ii .i64 (xM (l.getD i (ByteArray.empty,ByteArray.empty)).1 (l.getD i (ByteArray.empty,ByteArray.empty)).2).length),(27,ii .i64 y.1)]) (fun (y : Nat × Bool)=>[(0,.box 219 [.nself y.2 0,.vec 1]),(1,.vec 5 (.int .u8) (xW (bytes (foldL (l.take i) ++ endL ((xX (l.getD i (ByteArray.empty,ByteArray.empty)).1.data.toList (l.getD i (ByteArray.empty,ByteArray.empty)).2.data.toList).take y.1)))))]) 2 (fun (y : Nat × Bool)=>(xM (l.getD i (ByteArray.empty,ByteArray.empty)).1 (l.getD i (ByteArray.empty,ByteArray.empty)).2).length - y.1) (0,u) (Nat.zero_le _) (qQ ⟨rfl,rfl,rfl,rfl,rfl,rfl,rfl⟩ ⟨rfl,(qS (by simp [endL]))⟩ rfl) ?_;intro ⟨k,u2⟩ hI2;simp only at hI2 ⊢;have hk:=hI2;refine qC ?_;refine qB ?_;refine qC ?_;refine qK rfl (fun h28=>?_) (fun h28=>?_)
     ·try simp only [decide_eq_true_eq] at h28
      try simp only [zds] at h28
      have hlk : k < (xM (l.getD i (ByteArray.empty,ByteArray.empty)).1 (l.getD i (ByteArray.empty,ByteArray.empty)).2).length:=by omega
      have hg:=lineB_get hlk;have hlk2 : k < (xX (l.getD i (ByteArray.empty,ByteArray.empty)).1.data.toList (l.getD i (ByteArray.empty,ByteArray.empty)).2.data.toList).length:=by unfold xM at hlk;rw [List.length_map] at hlk;exact hlk
      have hgs : ((xM (l.getD i (ByteArray.empty,ByteArray.empty)).1 (l.getD i (ByteArray.empty,ByteArray.empty)).2).getD k ByteArray.empty).size ≤ 2000:=by rw [hg,yI];obtain ⟨_,h2,h3⟩:=check_ok hc;rw [qY] at h2 h3;exact (line_len h3 h2).2 _ (yK hlk2 _)
      have hen:=(text_len hc).2 k;refine qN ?_;refine qC ?_;refine qP ?_;refine qC ?_;refine qB ?_;refine zai (by first|omega|assumption|decide|(simp only [zds];omega)|(simp <;> omega)) ?_;refine qB ?_;refine zai (by unfold maxLen;rw [Int.toNat_natCast];exact Nat.le_trans (Nat.add_le_add_right hgs 1) (by decide)) ?_;refine Or.inr (Or.inl (zei [] (zei [0,1] (zei _ (zei _ (zei _ (zei _ (zei _ (zai (writeString_o _ _ _ (by rw [ints_len,List.length_append,ByteArray.size_append,Int.toNat_natCast,show ByteArray.size ⟨#[10]⟩ = 1 from rfl];have:=hgs;show _ + (((xM (l.getD i (ByteArray.empty,ByteArray.empty)).1 (l.getD i (ByteArray.empty,ByteArray.empty)).2).getD k ByteArray.empty).size + 1) ≤ _;omega)) (zai rfl (zai (zai (zai rfl rfl) (zai (zai rfl rfl) True.intro)) (zai rfl ?_))))))))))));refine qB ?_;refine zai (by first|omega|assumption|decide|(simp only [zds];omega)|(simp <;> omega)) ?_;exact ⟨(k + 1,true),(by simp only;omega),by first|omega|(simp <;> omega),qQ ⟨rfl,rfl,rfl,rfl,rfl,rfl,(qU (by simp only;omega))⟩ ⟨rfl,(qS (by simp only;rw [endL_snoc _ _ hlk2,← List.append_assoc];exact ints_add _ _ _ (by rw [xK,← hg];rfl)))⟩ rfl⟩
     ·try simp only [decide_eq_false_iff_not,Int.not_lt] at h28
      try simp only [zds] at h28
      refine qX ?_;refine qB ?_;refine zai (by first|omega|assumption|decide|(simp only [zds];omega)|(simp <;> omega)) ?_;exact ⟨(i + 1,u2),⟨by simp only;omega,by simp only;rw [← yO (ByteArray.empty,ByteArray.empty) hlt];intro f hf;rcases List.mem_append.1 hf with h|h;exact hall f h;rw [List.mem_singleton.1 h];exact hc⟩,by first|omega|(simp <;> omega),qQ ⟨rfl,rfl,rfl,(qU (by simp only;omega))⟩ ⟨rfl,(qS (by simp only;rw [foldL_snoc l i (ByteArray.empty,ByteArray.empty) hlt,show List.take k (xX (l.getD i (ByteArray.empty,ByteArray.empty)).1.data.toList (l.getD i (ByteArray.empty,ByteArray.empty)).2.data.toList) = xX (l.getD i (ByteArray.empty,ByteArray.empty)).1.data.toList (l.getD i (ByteArray.empty,ByteArray.empty)).2.data.toList from List.take_of_length_le (by unfold xM at h28;rw [List.length_map] at h28;omega)];rfl))⟩ rfl⟩
  ·try simp only [decide_eq_false_iff_not,Int.not_lt] at h14
   try simp only [zds] at h14
   refine qX ?_;refine qC ?_;refine qB ?_;refine Or.inr (Or.inl (zei [] (zei [0,1] (zei _ (zei _ (zei _ (zei _ (zei _ (zai (string_o _ _) (zai rfl (zai (zai (zai rfl rfl) (zai (zai rfl rfl) True.intro)) (zai rfl ?_))))))))))));refine qM ?_;rw [List.take_of_length_le (by omega)] at hall ⊢;unfold foldA;rw [if_pos (badF_ok hall)];rfl
end Q
end Ab
end Go.Proofs.YtlbainbjlibfiaaGreatDoor
namespace Go.Proofs.YtlbainbjlibfiaaGreatDoor
open Go.RowKit
namespace Ab
set_option maxRecDepth 100000
namespace Q
theorem lines_no {k v : List UInt8} (hk : keyOk k = true) : ∀ s ∈ xX k v,10 ∉ s:=by
  have hno:=parts_no v;intro s hs;obtain ⟨c,r,hkr,_,_,_,h10,_⟩:=keyOk_spec hk;unfold xX at hs;rcases List.mem_cons.1 hs with rfl|hs
  · have h0 : 10 ∉ (yP v).headD []:=by
      cases e : yP v with
      | nil=>exact absurd e (split_ne v [10])
      | cons p ps=>rw [e] at hno;exact hno p (by simp)
    unfold xP;simp only [List.mem_append,not_or];refine ⟨⟨h10,by decide⟩,?_⟩;split
    · simp
    · simp only [List.mem_cons,not_or];exact ⟨by decide,h0⟩
  · obtain ⟨q,hq,rfl⟩:=List.mem_map.1 hs;simp only [List.mem_cons,not_or];exact ⟨by decide,stuff_no (hno q (List.mem_of_mem_drop hq))⟩
theorem fold_yes {κ : Nat} {l : List Fld} (hl : xF l) (h : badF l = 0) : qW Tryz.prog 134 [.one (.slk κ rFld l)] (.tup [(false,[.lit (.string (bytes (foldL l)))]),(false,[.lit .nilIface])]):=by
  have:=fold_c (κ:=κ) l hl;unfold foldA at this;rw [if_pos h] at this;exact this
end Q
end Ab
end Go.Proofs.YtlbainbjlibfiaaGreatDoor
namespace Go.Proofs.YtlbainbjlibfiaaGreatDoor
open Go.RowKit
namespace Ab
set_option maxRecDepth 100000
namespace Q
theorem join_snoc {ps : List (List UInt8)} (q sep : List UInt8) (h : ps ≠ []) : Lib.join (ps ++ [q]) sep = Lib.join ps sep ++ (sep ++ q):=by
  induction ps with
  | nil=>exact absurd rfl h
  | cons p r ih =>
    cases r with
    | nil=>rw [List.cons_append,List.nil_append,join_two,Lib.join_one,Lib.join_one];simp
    | cons a b=>rw [List.cons_append,List.cons_append,join_two,join_two,← List.cons_append,ih (by simp)];simp
theorem parts_of {ps : List (List UInt8)} (h : ps ≠ []) (hn : ∀ p ∈ ps,10 ∉ p) : yP (Lib.join ps [10]) = ps:=split_join (by simp) ps h fun p hp=>clean_one (hn p hp)
theorem parts_ne (l : List UInt8) : yP l ≠ []:=split_ne l [10]
theorem parts_ten (l : List UInt8) : yP (l ++ [10]) = yP l ++ [[]]:=by
  have : l ++ [10] = Lib.join (yP l ++ [[]]) [10]:=by rw [join_snoc _ _ (parts_ne l),parts_join];simp
  rw [this];exact parts_of (by simp) fun p hp=>by
    rcases List.mem_append.1 hp with h|h
    · exact parts_no l p h
    · rw [List.mem_singleton.1 h];simp
theorem join_last (ps : List (List UInt8)) (q r : List UInt8) : Lib.join (ps ++ [q ++ r]) [10] = Lib.join (ps ++ [q]) [10] ++ r:=by
  cases ps with
  | nil=>simp [Lib.join_one]
  | cons a b=>rw [join_snoc _ _ (by simp),join_snoc _ _ (by simp)];simp
theorem parts_last (l : List UInt8) : ∃ ps q,yP l = ps ++ [q]:=by
  cases h : yP l with
  | nil=>exact absurd h (parts_ne l)
  | cons a b=>exact ⟨(a :: b).dropLast,(a :: b).getLast (by simp),(List.dropLast_concat_getLast (by simp)).symm⟩
theorem parts_one (l : List UInt8) {c : UInt8} (hc : c ≠ 10) : yP (l ++ [c]) = (yP l).set ((yP l).length - 1) ((yP l).getD ((yP l).length - 1) [] ++ [c]):=by
  obtain ⟨ps,q,e⟩:=parts_last l;have hno:=parts_no l;have hj:=parts_join l;rw [e] at hj hno;have e2 : (yP l).set ((yP l).length - 1) ((yP l).getD ((yP l).length - 1) [] ++ [c]) = ps ++ [q ++ [c]]:=by rw [e];simp
  rw [e2,← hj,← join_last];exact parts_of (by simp) fun p hp=>by
    rcases List.mem_append.1 hp with h|h
    · exact hno p (by simp [h])
    · rw [List.mem_singleton.1 h];simp only [List.mem_append,List.mem_singleton,not_or];exact ⟨hno q (by simp),fun e=>hc e.symm⟩
theorem parts_len (l : List UInt8) : (yP l).length ≤ l.length + 1:=by
  have:=split_len (bytes [10]) (bytes l) (by decide);have h2:=congrArg List.length (split_ls (bytes [10]) (bytes l));rw [List.length_map] at h2;rw [h2] at this;unfold ls at this;rw [yA,yA,yI] at this;exact this
theorem part_size (l : List UInt8) {x : ByteArray} (h : x ∈ (yP l).map bytes) : x.size ≤ l.length:=by
  obtain ⟨p,hp,rfl⟩:=List.mem_map.1 h;rw [yI];exact split_mem hp
theorem partB_one (l : List UInt8) {c : UInt8} (hc : c ≠ 10) (k : Nat) (hk : k = (yP l).length - 1) : ((yP l).map bytes).set k (((yP l).map bytes).getD k Rd.str.dflt ++ bytes [c]) = (yP (l ++ [c])).map bytes:=by
  subst hk;have hlt : (yP l).length - 1 < (yP l).length:=by have:=List.length_pos_iff.2 (parts_ne l);omega
  rw [parts_one l hc,List.map_set,xK]
  congr 2
  rw [List.getD_eq_getElem?_getD,List.getElem?_map,List.getD_eq_getElem?_getD,List.getElem?_eq_getElem hlt];rfl
def partB (s : ByteArray) : List ByteArray:=(yP s.data.toList).map bytes
theorem refParts_c (s : ByteArray) (hs : s.size ≤ 1000000) : qW Tryz.prog 169 [is s] (.one (.sl .str (partB s))):=by
  have hz:=qY s;refine qT (rs:=[2]) Tryz.func169 rfl rfl rfl teOk rfl ?_;refine qC ?_;refine qB ?_;refine qC ?_;refine qB ?_;refine qC ?_;refine qC ?_;refine qB ?_;refine qP ?_;refine qV (fun (i : Nat)=>i ≤ s.size) (fun (i : Nat)=>[(0,is s),(3,.one (.vec 0)),(4,ii .i64 i)]) (fun (i : Nat)=>[(0,.vec 9 .str ((yP (s.data.toList.take i)).map bytes))]) 1 (fun (i : Nat)=>s.size - i) 0 (Nat.zero_le _) (qQ ⟨rfl,rfl,rfl⟩ (qS rfl) rfl) ?_;intro i hI0;have hi:=hI0;refine qC ?_;refine qC ?_;refine qB ?_;refine qK rfl (fun h9=>?_) (fun h9=>?_)
  ·try simp only [decide_eq_true_eq] at h9
   try simp only [zds] at h9
   have hlt : i < s.data.toList.length:=by omega
   have hpl:=parts_len (s.data.toList.take i);have hti : (s.data.toList.take i).length ≤ i:=by rw [List.length_take];omega
   refine qN ?_;refine qC ?_;refine qP ?_;refine qC ?_;refine qB ?_;refine zai (by first|omega|assumption|decide|(simp only [zds];omega)|(simp <;> omega)) ?_;refine qK rfl (fun h15=>?_) (fun h15=>?_)
   ·try simp only [decide_eq_true_eq] at h15
    try simp only [Int.toNat_natCast] at h15
    refine qB ?_;refine zai (by show (_ + 1) * 16 ≤ 140737488355328;rw [List.length_map];omega) ?_;refine qB ?_;refine zai (by first|omega|assumption|decide|(simp only [zds];omega)|(simp <;> omega)) ?_;exact ⟨i + 1,by omega,by first|omega|(simp <;> omega),qQ ⟨rfl,rfl,(qU (by omega))⟩ (qS (by rw [← yO 0 hlt,show s.data.toList.getD i 0 = 10 from u8_eq h15,parts_ten,List.map_append];rfl)) rfl⟩
   ·try simp only [decide_eq_false_iff_not] at h15
    try simp only [Int.toNat_natCast] at h15
    have hp1:=List.length_pos_iff.2 (parts_ne (s.data.toList.take i));have hmp : ((yP (s.data.toList.take i)).map bytes).length = (yP (s.data.toList.take i)).length:=List.length_map _;have hx : s.extract (i : Int).toNat ((i : Int) + 1).toNat = bytes [s.data.toList.getD i 0]:=by rw [Int.toNat_natCast,show ((i : Int) + 1).toNat = i + 1 by omega,extract_one hlt]
    have hx1 : (s.extract (i : Int).toNat ((i : Int) + 1).toNat).size = 1:=by rw [hx];rfl
    have hes : (((yP (s.data.toList.take i)).map bytes).getD ((((yP (s.data.toList.take i)).map bytes).length : Int) - 1).toNat Rd.str.dflt).size ≤ 1000000:=Nat.le_trans (part_size _ (yK (by omega) _)) (by omega);refine yH rfl ?_;refine qJ 0 rfl rfl rfl (by kernel_rfl) ?_;refine qJ 1 rfl rfl rfl (by kernel_rfl) ?_;refine qJ 4 rfl rfl rfl (by kernel_rfl) ?_;refine qJ 5 rfl rfl rfl (by kernel_rfl) ?_;refine qJ 10 rfl rfl rfl (by kernel_rfl) ?_;refine qJ 11 rfl rfl rfl (by kernel_rfl) ?_;refine qJ 12 rfl rfl rfl (by kernel_rfl) ?_;refine qJ 13 rfl rfl rfl (by kernel_rfl) ?_;refine zai (by first|omega|assumption|decide|(simp only [zds];omega)|(simp <;> omega)) ?_;refine qJ 14 rfl rfl rfl (by kernel_rfl) ?_;refine zai (by first|omega|assumption|decide|(simp only [zds];omega)|(simp <;> omega)) ?_;refine qE [2,6] (by kernel_rfl) rfl ?_;refine zai ?_ ?_
    ·intro l7_2
     try simp only [zds] at l7_2
     refine qJ 3 rfl rfl rfl (by kernel_rfl) ?_;refine zai (by first|omega|assumption|decide|(simp only [zds];omega)|(simp <;> omega)) ?_;refine qE [6] (by kernel_rfl) rfl ?_;intro l7_6
     try simp only [zds] at l7_6
     refine qJ 7 rfl rfl rfl (by kernel_rfl) ?_;refine zai (by first|omega|assumption|decide|(simp only [zds];omega)|(simp <;> omega)) ?_;refine qJ 8 rfl rfl rfl (by kernel_rfl) ?_;refine zai (by first|omega|assumption|decide|(simp only [zds];omega)|(simp <;> omega)) ?_;refine qE [9] (by kernel_rfl) rfl ?_;refine zai (by omega) ?_;refine qJ 15 rfl rfl rfl (by kernel_rfl) ?_;refine zai (by first|omega|(simp only [ByteArray.size_append];omega)|(unfold maxLen;(try simp only [ByteArray.size_append]);omega)) ?_;refine qJ 16 rfl rfl rfl (by kernel_rfl) ?_;refine zai (by first|omega|assumption|decide|(simp only [zds];omega)|(simp <;> omega)) ?_;refine qE [17] (by kernel_rfl) rfl ?_;refine zai (by omega) ?_;refine qO (by kernel_rfl) ?_;refine qB ?_;refine zai (by first|omega|assumption|decide|(simp only [zds];omega)|(simp <;> omega)) ?_;exact ⟨i + 1,by omega,by first|omega|(simp <;> omega),qQ ⟨rfl,rfl,(qU (by omega))⟩ (qS (by rw [hx,← yO 0 hlt];exact partB_one _ (fun e=>h15 (by rw [e];rfl)) _ (by omega))) rfl⟩
    ·intro l7_6
     try simp only [zds] at l7_6
     refine qJ 7 rfl rfl rfl (by kernel_rfl) ?_;refine zai (by first|omega|assumption|decide|(simp only [zds];omega)|(simp <;> omega)) ?_;refine qJ 8 rfl rfl rfl (by kernel_rfl) ?_;refine zai (by first|omega|assumption|decide|(simp only [zds];omega)|(simp <;> omega)) ?_;refine qE [2,9] (by kernel_rfl) rfl ?_;refine zai ?_ ?_
     ·intro l7_2
      try simp only [zds] at l7_2
      refine qJ 3 rfl rfl rfl (by kernel_rfl) ?_;refine zai (by first|omega|assumption|decide|(simp only [zds];omega)|(simp <;> omega)) ?_;refine qE [9] (by kernel_rfl) rfl ?_;refine zai (by omega) ?_;refine qJ 15 rfl rfl rfl (by kernel_rfl) ?_;refine zai (by first|omega|(simp only [ByteArray.size_append];omega)|(unfold maxLen;(try simp only [ByteArray.size_append]);omega)) ?_;refine qJ 16 rfl rfl rfl (by kernel_rfl) ?_;refine zai (by first|omega|assumption|decide|(simp only [zds];omega)|(simp <;> omega)) ?_;refine qE [17] (by kernel_rfl) rfl ?_;refine zai (by omega) ?_;refine qO (by kernel_rfl) ?_;refine qB ?_;refine zai (by first|omega|assumption|decide|(simp only [zds];omega)|(simp <;> omega)) ?_;exact ⟨i + 1,by omega,by first|omega|(simp <;> omega),qQ ⟨rfl,rfl,(qU (by omega))⟩ (qS (by rw [hx,← yO 0 hlt];exact partB_one _ (fun e=>h15 (by rw [e];rfl)) _ (by omega))) rfl⟩
     ·refine zai (by omega) ?_;refine qJ 15 rfl rfl rfl (by kernel_rfl) ?_;refine zai (by first|omega|(simp only [ByteArray.size_append];omega)|(unfold maxLen;(try simp only [ByteArray.size_append]);omega)) ?_;refine qE [2] (by kernel_rfl) rfl ?_;intro l7_2
      try simp only [zds] at l7_2
      refine qJ 3 rfl rfl rfl (by kernel_rfl) ?_;refine zai (by first|omega|assumption|decide|(simp only [zds];omega)|(simp <;> omega)) ?_;refine qJ 16 rfl rfl rfl (by kernel_rfl) ?_;refine zai (by first|omega|assumption|decide|(simp only [zds];omega)|(simp <;> omega)) ?_;refine qE [17] (by kernel_rfl) rfl ?_;refine zai (by omega) ?_;refine qO (by kernel_rfl) ?_;refine qB ?_;refine zai (by first|omega|assumption|decide|(simp only [zds];omega)|(simp <;> omega)) ?_;exact ⟨i + 1,by omega,by first|omega|(simp <;> omega),qQ ⟨rfl,rfl,(qU (by omega))⟩ (qS (by rw [hx,← yO 0 hlt];exact partB_one _ (fun e=>h15 (by rw [e];rfl)) _ (by omega))) rfl⟩
  ·try simp only [decide_eq_false_iff_not,Int.not_lt] at h9
   try simp only [zds] at h9
   refine qX ?_;refine qC ?_;refine qB ?_;refine qM ?_;exact sl_eq (by rw [List.take_of_length_le (by omega)];rfl)
theorem refParts_v (s : ByteArray) (ws : List ByteArray) (h : partB s = ws) (hs : s.size ≤ 1000000) : qW Tryz.prog 169 [is s] (.one (.sl .str ws)):=by
  subst h;exact refParts_c s hs
theorem kind_bare {p : List UInt8} (h : 10 ∉ p) : qZ p = 1 ↔ p.all xT = true:=by
  unfold qZ;rw [if_neg h];split
  · rename_i h2;exact ⟨fun _=>h2,fun _=>rfl⟩
  · rename_i h2;refine ⟨fun h3=>?_,fun h3=>absurd h3 h2⟩;split at h3
    · cases h3
    · split at h3
      · cases h3
      · split at h3 <;> cases h3
theorem stuff_yes {p : List UInt8} (h : 10 ∉ p) (hk : qZ p = 1 ∨ p.getD 0 0 = 46) : yX p = 46 :: p:=by
  unfold yX;rw [if_pos];rw [xU];rcases hk with hk|hk
  · rw [(kind_bare h).1 hk];rfl
  · cases p with
    | nil=>rfl
    | cons a b=>simp only [List.getD_cons_zero] at hk;rw [hk];simp
theorem stuff_not {p : List UInt8} (h : 10 ∉ p) (hk : qZ p ≠ 1) (hd : p.getD 0 0 ≠ 46) : yX p = p:=by
  unfold yX;rw [if_neg];rw [xU,decide_eq_false hd,Bool.and_false,Bool.or_false];exact fun e=>hk ((kind_bare h).2 e)
theorem refKind_v (s : ByteArray) (n : Int) (h : qZ s.data.toList = n) (hs : s.size ≤ 1000000000) : qW Tryz.prog 97 [is s] (ii .i64 n):=by
  subst h;exact refKind_c s hs
theorem kind_pos {s : ByteArray} (h : 10 ∉ s.data.toList) (hk : ¬ qZ s.data.toList = 1) : 0 < s.size:=by
  refine Nat.pos_of_ne_zero fun e=>hk ((kind_bare h).2 ?_)
  rw [qY] at e;rw [List.eq_nil_of_length_eq_zero e];rfl
theorem ref_dot {s : ByteArray} (h : 10 ∉ s.data.toList) (hk : qZ s.data.toList = 1 ∨ s.data.toList.getD 0 0 = 46) : (⟨#[32,46]⟩ : ByteArray) ++ s = bytes (32 :: yX s.data.toList):=by
  rw [stuff_yes h hk,show (32 :: 46 :: s.data.toList) = [32,46] ++ s.data.toList from rfl,xK,show bytes s.data.toList = s from xR s];rfl
theorem ref_bare {s : ByteArray} (h : 10 ∉ s.data.toList) (hk : ¬ qZ s.data.toList = 1) (hd : ¬ s.data.toList.getD 0 0 = 46) : (⟨#[32]⟩ : ByteArray) ++ s = bytes (32 :: yX s.data.toList):=by
  rw [stuff_not h hk hd,show (32 :: s.data.toList) = [32] ++ s.data.toList from rfl,xK,show bytes s.data.toList = s from xR s];rfl
theorem refLines_c (f : Fld) (hk : f.1.size ≤ 1000000) (hv : f.2.size ≤ 1000000) : qW Tryz.prog 150 [.agg (toL rFld f)] (.one (.sl .str (xM f.1 f.2))):=by
  obtain ⟨ws,hws⟩ : ∃ ws,partB f.2 = ws:=⟨_,rfl⟩;have hsz : ∀ x ∈ ws,x.size ≤ 1000000:=fun x hx=>Nat.le_trans (part_size _ (hws ▸ hx)) (by rw [← qY];exact hv)
  have hno : ∀ x ∈ ws,10 ∉ x.data.toList:=fun x hx=>by
    rw [← hws] at hx;obtain ⟨p,hp,rfl⟩:=List.mem_map.1 hx;rw [yA];exact parts_no _ p hp
  have hsp : ws.map ls = yP f.2.data.toList:=by
    rw [← hws];unfold partB;rw [List.map_map]
    conv=>rhs;rw [← List.map_id (yP f.2.data.toList)]
    exact List.map_congr_left fun s _=>yA s
  have hpos : 0 < ws.length:=by
    rw [← List.length_map (f:=ls),hsp];exact List.length_pos_iff.2 (parts_ne _)
  have hlen : ws.length ≤ 1000001:=by
    rw [← List.length_map (f:=ls),hsp];have:=parts_len f.2.data.toList;rw [← qY] at this;omega
  have hdl : (ws.drop 1).length = ws.length - 1:=List.length_drop;obtain ⟨p0,hp0⟩ : ∃ p,ws.getD 0 ByteArray.empty = p:=⟨_,rfl⟩;have hp0s : p0.size ≤ 1000000:=by rw [← hp0];exact hsz _ (yK hpos _)
  have h58 : ByteArray.size ⟨#[58]⟩ = 1:=rfl;have h32 : ByteArray.size ⟨#[32]⟩ = 1:=rfl;have h3246 : ByteArray.size ⟨#[32,46]⟩ = 2:=rfl;have hp0r : (ws.getD (Int.toNat 0) Rd.str.dflt).size ≤ 1000000:=hsz _ (yK hpos _);refine qT (rs:=[2]) Tryz.func150 rfl rfl rfl teOk rfl ?_;refine qC ?_;refine qB ?_;refine qC ?_;refine qB ?_;refine Or.inl ?_;refine zai (rfl) ?_;refine zei _ (zai (refParts_v f.2 ws hws hv) ?_);refine qC ?_;refine qB ?_;refine zai (by (have hk0 : ByteArray.size { data:=#[58] } = 1:=rfl;first|(unfold maxLen;omega)|(simp only [ByteArray.size_append];omega)|(unfold maxLen;(try simp only [ByteArray.size_append]);omega))) ?_;refine acode_cut (fun (u : Unit)=>True) (fun (u : Unit)=>[(3,.one (.sl .str ws)),(4,is (bytes (xP f.1.data.toList p0.data.toList)))]) (fun (u : Unit)=>[]) 1 ?_ ?_
  ·refine qC ?_;refine qB ?_;refine zai (by first|omega|assumption|decide|(simp only [zds];omega)|(simp <;> omega)) ?_;refine qK rfl (fun h16=>?_) (fun h16=>?_)
   ·try simp only [decide_eq_false_iff_not,Bool.not_eq_true'] at h16
    try simp only [qF] at h16
    refine qB ?_;refine zai (by (have hk0 : ByteArray.size { data:=#[32] } = 1:=rfl;first|(unfold maxLen;omega)|(simp only [ByteArray.size_append];omega)|(unfold maxLen;(try simp only [ByteArray.size_append]);omega))) ?_;refine zai (by first|omega|assumption|decide|(simp only [zds];omega)|(simp <;> omega)) ?_;refine zai (by (have hk0 : ByteArray.size { data:=#[32] } = 1:=rfl;first|(unfold maxLen;omega)|(simp only [ByteArray.size_append];omega)|(unfold maxLen;(try simp only [ByteArray.size_append]);omega))) ?_;exact ⟨(),trivial,qQ ⟨rfl,(is_eq (by rw [← hp0,ByteArray.append_assoc];exact first_b _ _ h16))⟩ trivial rfl⟩
   ·try simp only [decide_eq_true_eq,Bool.not_eq_false'] at h16
    try simp only [qF] at h16
    refine qN ?_;exact ⟨(),trivial,qQ ⟨rfl,(is_eq (by rw [← hp0];exact first_e _ _ h16))⟩ trivial rfl⟩
  ·intro u hcut5;refine qC ?_;refine qB ?_;refine qC ?_;refine qC ?_;refine qB ?_;refine qP ?_;refine qV (fun (i : Nat)=>i ≤ (ws.drop 1).length) (fun (i : Nat)=>[(3,.one (.sl .str ws)),(5,.one (.vec 1)),(6,ii .i64 ((i : Int) + 1))]) (fun (i : Nat)=>[(1,.vec 9 .str (bytes (xP f.1.data.toList p0.data.toList) :: ((ws.drop 1).take i).map fun s=>bytes (32 :: yX s.data.toList)))]) 2 (fun (i : Nat)=>(ws.drop 1).length - i) 0 (Nat.zero_le _) (qQ ⟨rfl,rfl,rfl⟩ rfl rfl) ?_;intro i hI0;have hi:=hI0;refine qC ?_;refine qC ?_;refine qB ?_;intro l7_2
   try simp only [zds] at l7_2
   refine qK rfl (fun h28=>?_) (fun h28=>?_)
   ·try simp only [decide_eq_true_eq] at h28
    try simp only [zds] at h28
    have hlt : i + 1 < ws.length:=by omega
    have hxm : ws.getD ((i : Int) + 1).toNat Rd.str.dflt ∈ ws:=yK (by omega) _;have hxs:=hsz _ hxm;refine qN ?_;refine qC ?_;refine qP ?_;refine qC ?_;refine qB ?_;refine zai (by first|omega|assumption|decide|(simp only [zds];omega)|(simp <;> omega)) ?_;refine Or.inl ?_;refine zai (rfl) ?_;refine zei _ (zai (refKind_v _ _ rfl (by omega)) ?_);refine zai (fun h=>trivial) ?_;refine zai (fun h=>trivial) ?_;refine zai (fun h=>⟨⟨⟨h,trivial⟩,⟨h,trivial⟩,trivial⟩,by first|omega|decide|(simp only [zds];omega)|(have h9:=of_decide_eq_true h;omega)|(simp [gq] at h;omega)⟩) ?_;refine zai (fun h=>⟨⟨h,trivial⟩,trivial⟩) ?_;refine zai (fun h=>⟨⟨⟨h,trivial⟩,trivial⟩,by have h7:=kind_pos (hno _ hxm) (of_decide_eq_false (by simpa [gq] using h));omega⟩) ?_;refine zai (fun h=>⟨⟨h,trivial⟩,trivial⟩) ?_;refine zai (by first|(intro h;rw [h];rfl)|(intro h;cases h)) ?_;refine qK rfl (fun h44=>?_) (fun h44=>?_)
    ·try simp only [decide_eq_true_eq,Bool.or_eq_true] at h44
     try simp only [qF] at h44
     refine qB ?_;refine zai (by first|omega|assumption|decide|(simp only [zds];omega)|(simp <;> omega)) ?_;refine zai (by (have hk0 : ByteArray.size { data:=#[32,46] } = 2:=rfl;first|(unfold maxLen;omega)|(simp only [ByteArray.size_append];omega)|(unfold maxLen;(try simp only [ByteArray.size_append]);omega))) ?_;refine zai (by first|exact qR (by first|omega|(simp only [List.length_cons,List.length_nil,List.length_map,List.length_take,List.length_drop];omega)|(simp;omega)) (by decide)|omega|assumption|decide|(simp only [zds];omega)|(simp <;> omega)) ?_;refine qB ?_;refine zai (by first|omega|assumption|decide|(simp only [zds];omega)|(simp <;> omega)) ?_;exact ⟨i + 1,by omega,by first|omega|(simp <;> omega),qQ ⟨rfl,rfl,(qU (by omega))⟩ (qS (map_next (fun s : ByteArray=>bytes (32 :: yX s.data.toList)) ByteArray.empty (by omega) _ (by rw [drop_getD];exact ref_dot (hno _ hxm) (h44.imp id (fun e=>u8_eq (b:=46) e))) [_])) rfl⟩
    ·try simp only [decide_eq_false_iff_not,Bool.or_eq_false_iff] at h44
     try simp only [qF] at h44
     refine qB ?_;refine zai (by first|omega|assumption|decide|(simp only [zds];omega)|(simp <;> omega)) ?_;refine zai (by (have hk0 : ByteArray.size { data:=#[32] } = 1:=rfl;first|(unfold maxLen;omega)|(simp only [ByteArray.size_append];omega)|(unfold maxLen;(try simp only [ByteArray.size_append]);omega))) ?_;refine zai (by first|exact qR (by first|omega|(simp only [List.length_cons,List.length_nil,List.length_map,List.length_take,List.length_drop];omega)|(simp;omega)) (by decide)|omega|assumption|decide|(simp only [zds];omega)|(simp <;> omega)) ?_;refine qB ?_;refine zai (by first|omega|assumption|decide|(simp only [zds];omega)|(simp <;> omega)) ?_;exact ⟨i + 1,by omega,by first|omega|(simp <;> omega),qQ ⟨rfl,rfl,(qU (by omega))⟩ (qS (map_next (fun s : ByteArray=>bytes (32 :: yX s.data.toList)) ByteArray.empty (by omega) _ (by rw [drop_getD];exact ref_bare (hno _ hxm) h44.1 (fun e=>h44.2 (by rw [show (ws.getD ((i : Int) + 1).toNat ByteArray.empty).data.toList.getD (Int.toNat 0) 0 = 46 from e];rfl))) [_])) rfl⟩
   ·try simp only [decide_eq_false_iff_not,Int.not_lt] at h28
    try simp only [zds] at h28
    refine qX ?_;refine qC ?_;refine qB ?_;refine qM ?_;exact sl_eq (by rw [List.take_of_length_le (by omega),← lineB_eq hsp hpos,hp0])
end Q
end Ab
end Go.Proofs.YtlbainbjlibfiaaGreatDoor
namespace Go.Proofs.YtlbainbjlibfiaaGreatDoor
open Go.RowKit
namespace Ab
set_option maxRecDepth 100000
namespace Q
theorem tlines {k v : ByteArray} : (xM k v).length = (xX k.data.toList v.data.toList).length:=by unfold xM;rw [List.length_map]
theorem text_step (x e p : List UInt8) (g : ByteArray) (hg : g = bytes p) : bytes (x ++ e) ++ g ++ ⟨#[10]⟩ = bytes (x ++ (e ++ (p ++ [10]))):=by
  rw [hg,← List.append_assoc,← List.append_assoc,xK _ [10],xK _ p];rfl
theorem refFold_c (l : List Fld) (hl : ∀ f ∈ l,yR f = 0) (hn : l.length ≤ 1000) : qW Tryz.prog 130 [.one (.sl rFld l)] (is (bytes (foldL l))):=by
  refine qT (rs:=[2]) Tryz.func130 rfl rfl rfl teOk rfl ?_;refine qC ?_;refine qB ?_;refine qC ?_;refine qB ?_;refine qC ?_;refine qC ?_;refine qB ?_;refine qP ?_;refine qV (fun (i : Nat)=>i ≤ l.length) (fun (i : Nat)=>[(0,.one (.sl rFld l)),(3,is (bytes (foldL (l.take i)))),(4,ii .i64 i)]) (fun (i : Nat)=>[]) 0 (fun (i : Nat)=>l.length - i) 0 (Nat.zero_le _) (qQ ⟨rfl,rfl,rfl⟩ trivial rfl) ?_;intro i hI0;have hi:=hI0;refine qC ?_;refine qC ?_;refine qB ?_;intro l3_2
  try simp only [zds] at l3_2
  refine qK rfl (fun h10=>?_) (fun h10=>?_)
  ·try simp only [decide_eq_true_eq] at h10
   try simp only [zds] at h10
   have hlt : i < l.length:=by omega
   have hm:=hl _ (yK hlt (ByteArray.empty,ByteArray.empty));have hco:=check_ok hm;have hfl : (foldL (l.take i)).length ≤ 1000 * 5000000:=by refine Nat.le_trans (flat_le textL 5000000 _ fun f hf=>(text_len (hl f (List.mem_of_mem_take hf))).1) (Nat.mul_le_mul_right _ (by rw [List.length_take];omega))
   refine qN ?_;refine qC ?_;refine qP ?_;refine qC ?_;refine qB ?_;refine zai (by first|omega|assumption|decide|(simp only [zds];omega)|(simp <;> omega)) ?_;refine Or.inl ?_;refine zai (rfl) ?_;refine zei _ (zai (refLines_c (l.getD i (ByteArray.empty,ByteArray.empty)) (by omega) (by omega)) ?_);intro l5_5
   try simp only [zds] at l5_5
   refine qP ?_;refine qV (fun (k : Nat)=>k ≤ (xM (l.getD i (ByteArray.empty,ByteArray.empty)).1 (l.getD i (ByteArray.empty,ByteArray.empty)).2).length) (fun (k : Nat)=>[(0,.one (.sl rFld l)),(3,is (bytes (foldL (l.take i) ++ endL ((xX (l.getD i (ByteArray.empty,ByteArray.empty)).1.data.toList (l.getD i (ByteArray.empty,ByteArray.empty)).2.data.toList).take k)))),(4,ii .i64 i),(17,.one (.sl .str (xM (l.getD i (ByteArray.empty,ByteArray.empty)).1 (l.getD i (ByteArray.empty,ByteArray.empty)).2))),(18,ii .i64 (xM (l.getD i (ByteArray.empty,ByteArray.empty)).1 (l.getD i (ByteArray.empty,ByteArray.empty)).2).length),(19,ii .i64 k)]) (fun (k : Nat)=>[]) 0 (fun (k : Nat)=>(xM (l.getD i (ByteArray.empty,ByteArray.empty)).1 (l.getD i (ByteArray.empty,ByteArray.empty)).2).length - k) 0 (Nat.zero_le _) (qQ ⟨rfl,(is_eq (by simp [endL])),rfl,rfl,rfl,rfl⟩ trivial rfl) ?_;intro k hI2;have hk:=hI2;refine qC ?_;refine qB ?_;refine qC ?_;refine qK rfl (fun h20=>?_) (fun h20=>?_)
   ·try simp only [decide_eq_true_eq] at h20
    try simp only [zds] at h20
    have hlk : k < (xM (l.getD i (ByteArray.empty,ByteArray.empty)).1 (l.getD i (ByteArray.empty,ByteArray.empty)).2).length:=by omega
    have hg:=lineB_get hlk;have hlk2 : k < (xX (l.getD i (ByteArray.empty,ByteArray.empty)).1.data.toList (l.getD i (ByteArray.empty,ByteArray.empty)).2.data.toList).length:=by rw [tlines] at hlk;exact hlk
    have hgs : ((xM (l.getD i (ByteArray.empty,ByteArray.empty)).1 (l.getD i (ByteArray.empty,ByteArray.empty)).2).getD k ByteArray.empty).size ≤ 2000:=by rw [hg,yI];have h2:=hco.2.1;have h3:=hco.2.2;rw [qY] at h2 h3;exact (line_len h3 h2).2 _ (yK hlk2 _)
    have hen:=(text_len hm).2 k;have h10 : ByteArray.size ⟨#[10]⟩ = 1:=rfl;have hps : (bytes (foldL (l.take i) ++ endL ((xX (l.getD i (ByteArray.empty,ByteArray.empty)).1.data.toList (l.getD i (ByteArray.empty,ByteArray.empty)).2.data.toList).take k))).size ≤ 6000000000:=by rw [yI,List.length_append];omega
    have hgs' : ((xM (l.getD i (ByteArray.empty,ByteArray.empty)).1 (l.getD i (ByteArray.empty,ByteArray.empty)).2).getD (k : Int).toNat Rd.str.dflt).size ≤ 2000:=hgs;refine qN ?_;refine qC ?_;refine qP ?_;refine qC ?_;refine qB ?_;refine zai (by first|omega|assumption|decide|(simp only [zds];omega)|(simp <;> omega)) ?_;refine qB ?_;refine zai (by first|omega|(simp only [ByteArray.size_append];omega)|(unfold maxLen;(try simp only [ByteArray.size_append]);omega)) ?_;refine zai (by (have hk0 : ByteArray.size { data:=#[10] } = 1:=rfl;first|(unfold maxLen;omega)|(simp only [ByteArray.size_append];omega)|(unfold maxLen;(try simp only [ByteArray.size_append]);omega))) ?_;refine qB ?_;refine zai (by first|omega|assumption|decide|(simp only [zds];omega)|(simp <;> omega)) ?_;exact ⟨k + 1,by omega,by first|omega|(simp <;> omega),qQ ⟨rfl,(is_eq (by rw [endL_snoc _ _ hlk2];exact text_step _ _ _ _ hg)),rfl,rfl,rfl,(qU (by omega))⟩ trivial rfl⟩
   ·try simp only [decide_eq_false_iff_not,Int.not_lt] at h20
    try simp only [zds] at h20
    refine qX ?_;refine qB ?_;refine zai (by first|omega|assumption|decide|(simp only [zds];omega)|(simp <;> omega)) ?_;exact ⟨i + 1,by omega,by first|omega|(simp <;> omega),qQ ⟨rfl,(is_eq (by rw [foldL_snoc l i (ByteArray.empty,ByteArray.empty) hlt,show List.take k (xX (l.getD i (ByteArray.empty,ByteArray.empty)).1.data.toList (l.getD i (ByteArray.empty,ByteArray.empty)).2.data.toList) = xX (l.getD i (ByteArray.empty,ByteArray.empty)).1.data.toList (l.getD i (ByteArray.empty,ByteArray.empty)).2.data.toList from List.take_of_length_le (by rw [← tlines];omega)];rfl)),(qU (by omega))⟩ trivial rfl⟩
  ·try simp only [decide_eq_false_iff_not,Int.not_lt] at h10
   try simp only [zds] at h10
   refine qX ?_;refine qC ?_;refine qB ?_;refine qM ?_;exact is_eq (by rw [List.take_of_length_le (by omega)])
theorem list_ext_take {α : Type} {a b : List α} {i : Nat} (d : α) (ha : i < a.length) (hb : i < b.length) (h : a.take i = b.take i) (he : a.getD i d = b.getD i d) : a.take (i + 1) = b.take (i + 1):=by
  rw [← yO d ha,← yO d hb,h,he]
theorem ne_at {α : Type} {a b : List α} {i : Nat} (d : α) (he : a.getD i d ≠ b.getD i d) : ¬ a = b:=fun e=>he (by rw [e])
theorem fields_c (a b : List Fld) : qW Tryz.prog 30 [.one (.sl rFld a),.one (.sl rFld b)] (ib (decide (a = b))):=by
  refine qT (rs:=[4]) Tryz.func30 rfl rfl rfl teOk rfl ?_;refine qC ?_;refine qB ?_;refine qC ?_;refine qC ?_;refine qB ?_;intro l1_1
  try simp only [zds] at l1_1
  intro l1_3
  try simp only [zds] at l1_3
  refine qK rfl (fun h10=>?_) (fun h10=>?_)
  ·try simp only [decide_eq_false_iff_not,Bool.not_eq_true'] at h10
   try simp only [zds] at h10
   refine qC ?_;refine qB ?_;refine qM ?_;exact ib_eq (decide_eq_false (fun e=>by rw [e] at h10;omega)).symm
  ·try simp only [decide_eq_true_eq,Bool.not_eq_false'] at h10
   try simp only [zds] at h10
   refine qN ?_;refine qC ?_;refine qC ?_;refine qB ?_;intro l3_1
   try simp only [zds] at l3_1
   refine qP ?_;refine qV (fun (i : Nat)=>i ≤ a.length ∧ a.take i = b.take i) (fun (i : Nat)=>[(0,.one (.sl rFld a)),(1,.one (.sl rFld b)),(12,ii .i64 a.length),(13,ii .i64 i)]) (fun (i : Nat)=>[]) 0 (fun (i : Nat)=>a.length - i) 0 (⟨Nat.zero_le _,by simp⟩) (qQ ⟨rfl,rfl,rfl,rfl⟩ trivial rfl) ?_;intro i hI0;obtain ⟨hi,ht⟩:=hI0;refine qC ?_;refine qB ?_;refine qC ?_;refine qK rfl (fun h14=>?_) (fun h14=>?_)
   ·try simp only [decide_eq_true_eq] at h14
    try simp only [zds] at h14
    have hla : i < a.length:=by omega
    have hlb : i < b.length:=by omega
    refine qN ?_;refine qC ?_;refine qP ?_;refine qC ?_;refine qB ?_;refine qC ?_;refine acode_draw rfl (by kernel_rfl) ?_;refine zai (by first|omega|assumption|decide|(simp only [zds];omega)|(simp <;> omega)) ?_;refine zai (by first|omega|assumption|decide|(simp only [zds];omega)|(simp <;> omega)) ?_;refine zai (by rfl) ?_;refine qK rfl (fun h24=>?_) (fun h24=>?_)
    ·try simp only [decide_eq_false_iff_not,Bool.not_eq_true',Bool.and_eq_false_iff] at h24
     try simp only [Int.toNat_natCast,qH,qF] at h24
     refine qC ?_;refine qB ?_;refine qM ?_;exact ib_eq (decide_eq_false (ne_at (i:=i) (ByteArray.empty,ByteArray.empty) (fun e=>h24.elim (fun h=>h (congrArg Prod.fst e)) (fun h=>h (congrArg Prod.snd e))))).symm
    ·try simp only [decide_eq_true_eq,Bool.and_eq_true,Bool.not_eq_false'] at h24
     try simp only [Int.toNat_natCast,qH,qF] at h24
     refine qN ?_;refine qB ?_;refine zai (by first|omega|assumption|decide|(simp only [zds];omega)|(simp <;> omega)) ?_;exact ⟨i + 1,⟨by omega,list_ext_take (ByteArray.empty,ByteArray.empty) hla hlb ht (Prod.ext h24.1 h24.2)⟩,by first|omega|(simp <;> omega),qQ ⟨rfl,rfl,rfl,(qU (by omega))⟩ trivial rfl⟩
   ·try simp only [decide_eq_false_iff_not,Int.not_lt] at h14
    try simp only [zds] at h14
    refine qX ?_;refine qC ?_;refine qB ?_;refine qM ?_;exact ib_eq (decide_eq_true (by rw [List.take_of_length_le (by omega),List.take_of_length_le (by omega)] at ht;exact ht)).symm
abbrev rFault : Rd (Int × Value):=.st (.int .i64) .raw
def errF (at_ n : Int) : C:=.ifc 130 (.addr rFault (at_,.iface 75 (.int .i64 n)))
theorem num_nil : qW Tryz.prog 23 [.one (.lit .nilIface)] (ii .i64 0):=by
  refine qT (rs:=[2]) Tryz.func23 rfl rfl rfl teOk rfl ?_;refine qC ?_;refine qB ?_;refine qC ?_;refine qC ?_;refine qB ?_;refine qP ?_;refine qV (fun (u : Unit)=>True) (fun (u : Unit)=>[(0,.one (.lit .nilIface)),(7,ii .i64 0)]) (fun (u : Unit)=>[]) 0 (fun (u : Unit)=>0) () (trivial) (qQ ⟨rfl,rfl⟩ trivial rfl) ?_;intro u hI0;refine qC ?_;refine qB ?_;refine qC ?_;refine qK rfl (fun h8=>?_) (fun h8=>?_)
  ·try simp only [decide_eq_true_eq] at h8
   try simp only [zds] at h8
   refine qN ?_;refine qC ?_;refine qP ?_;refine qC ?_;refine qC ?_;refine qB ?_;refine qK rfl (fun h10=>?_) (fun h10=>?_)
   ·try simp only [Bool.not_eq_true'] at h10
    try simp only [zds] at h10
    refine qC ?_;refine qB ?_;refine qM ?_;rfl
   ·try simp only [Bool.not_eq_false'] at h10
    try simp only [zds] at h10
    cases h10
  ·try simp only [decide_eq_false_iff_not,Int.not_lt] at h8
   try simp only [zds] at h8
   cases h8
theorem num_errno (n : Int) (hn : n ≠ 0) : qW Tryz.prog 23 [.one (errN n)] (ii .i64 n):=by
  refine qT (rs:=[2]) Tryz.func23 rfl rfl rfl teOk rfl ?_;refine qC ?_;refine qB ?_;refine qC ?_;refine qC ?_;refine qB ?_;refine qP ?_;refine qV (fun (u : Unit)=>True) (fun (u : Unit)=>[(0,.one (errN n)),(7,ii .i64 0)]) (fun (u : Unit)=>[]) 0 (fun (u : Unit)=>0) () (trivial) (qQ ⟨rfl,rfl⟩ trivial rfl) ?_;intro u hI0;refine qC ?_;refine qB ?_;refine qC ?_;refine qK rfl (fun h8=>?_) (fun h8=>?_)
  ·try simp only [decide_eq_true_eq] at h8
   try simp only [zds] at h8
   refine qN ?_;refine qC ?_;refine qP ?_;refine qC ?_;refine qC ?_;refine qB ?_;refine qK rfl (fun h10=>?_) (fun h10=>?_)
   ·try simp only [zbq] at h10
    try simp only [zds] at h10
    cases h10
   ·skip
    refine qN ?_;refine qC ?_;refine qC ?_;refine qB ?_;refine qC ?_;refine qB ?_;refine zai (fun h=>trivial) ?_;refine zai (fun h=>⟨⟨h,trivial⟩,trivial⟩) ?_;refine zai (by exact fun h=>h) ?_;refine qK rfl (fun h20=>?_) (fun h20=>?_)
    ·try simp only [decide_eq_false_iff_not,Bool.and_eq_true,Bool.not_eq_true'] at h20
     try simp only [zds] at h20
     refine qC ?_;refine qB ?_;refine qM ?_;rfl
    ·try simp only [decide_eq_true_eq,Bool.not_eq_false',Bool.and_eq_false_iff] at h20
     try simp only [zds] at h20
     exact absurd (h20.resolve_left (fun e=>by cases e)) hn
  ·try simp only [decide_eq_false_iff_not,Int.not_lt] at h8
   try simp only [zds] at h8
   cases h8
theorem num_fault (at_ n : Int) (hn : n ≠ 0) : qW Tryz.prog 23 [.one (errF at_ n)] (ii .i64 n):=by
  refine qT (rs:=[2]) Tryz.func23 rfl rfl rfl teOk rfl ?_;refine qC ?_;refine qB ?_;refine qC ?_;refine qC ?_;refine qB ?_;refine qP ?_;refine qV (fun (b : Bool)=>True) (fun (b : Bool)=>[(0,cond b (.one (errN n)) (.one (errF at_ n))),(7,ii .i64 (cond b 1 0))]) (fun (b : Bool)=>[]) 0 (fun (b : Bool)=>cond b 0 1) false (trivial) (qQ ⟨rfl,rfl⟩ trivial rfl) ?_;intro b hI0;refine qC ?_;cases b
  ·refine qB ?_;refine qC ?_;refine qK rfl (fun h8=>?_) (fun h8=>?_)
   ·try simp only [decide_eq_true_eq] at h8
    try simp only [zds] at h8
    refine qN ?_;refine qC ?_;refine qP ?_;refine qC ?_;refine qC ?_;refine qB ?_;refine qK rfl (fun h10=>?_) (fun h10=>?_)
    ·try simp only [zbq] at h10
     try simp only [zds] at h10
     cases h10
    ·skip
     refine qN ?_;refine qC ?_;refine qC ?_;refine qB ?_;refine qC ?_;refine qB ?_;refine zai (fun h=>trivial) ?_;refine zai (fun h=>⟨⟨h,trivial⟩,trivial⟩) ?_;refine zai (by exact fun h=>h) ?_;refine qK rfl (fun h20=>?_) (fun h20=>?_)
     ·try simp only [decide_eq_false_iff_not,Bool.and_eq_true,Bool.not_eq_true'] at h20
      try simp only [zds] at h20
      exact absurd h20.1 (by decide)
     ·try simp only [decide_eq_true_eq,Bool.not_eq_false',Bool.and_eq_false_iff] at h20
      try simp only [zds] at h20
      refine qN ?_;refine qC ?_;refine qB ?_;refine qC ?_;refine qC ?_;refine qB ?_;refine zai (fun h=>trivial) ?_;refine zai (fun h=>⟨⟨h,trivial⟩,trivial⟩) ?_;refine zai (by first|(intro h;rw [h];rfl)|(intro h;cases h)) ?_;refine zai (fun h=>trivial) ?_;refine zai (fun h=>⟨⟨h,trivial⟩,trivial⟩) ?_;refine zai (fun h=>⟨⟨h,trivial⟩,trivial⟩) ?_;refine zai (fun h=>⟨⟨h,trivial⟩,trivial⟩) ?_;refine zai (fun h=>⟨⟨h,trivial⟩,trivial⟩) ?_;refine zai (by first|(intro h;rw [h];rfl)|(intro h;cases h)) ?_;refine qK rfl (fun h39=>?_) (fun h39=>?_)
      ·try simp only [Bool.not_eq_true',Bool.or_eq_true] at h39
       try simp only [zds] at h39
       exact absurd h39 (by decide)
      ·try simp only [Bool.not_eq_false',Bool.or_eq_false_iff] at h39
       try simp only [zds] at h39
       refine qN ?_;refine qB ?_;refine qB ?_;refine zai (by first|omega|assumption|decide|(simp only [zds];omega)|(simp <;> omega)) ?_;exact ⟨true,trivial,by decide,qQ ⟨rfl,rfl⟩ trivial rfl⟩
   ·try simp only [decide_eq_false_iff_not,Int.not_lt] at h8
    try simp only [zds] at h8
    exact absurd h8 (by decide)
  ·refine qB ?_;refine qC ?_;refine qK rfl (fun h8=>?_) (fun h8=>?_)
   ·try simp only [decide_eq_true_eq] at h8
    try simp only [zds] at h8
    refine qN ?_;refine qC ?_;refine qP ?_;refine qC ?_;refine qC ?_;refine qB ?_;refine qK rfl (fun h10=>?_) (fun h10=>?_)
    ·try simp only [zbq] at h10
     try simp only [zds] at h10
     cases h10
    ·skip
     refine qN ?_;refine qC ?_;refine qC ?_;refine qB ?_;refine qC ?_;refine qB ?_;refine zai (fun h=>trivial) ?_;refine zai (fun h=>⟨⟨h,trivial⟩,trivial⟩) ?_;refine zai (by exact fun h=>h) ?_;refine qK rfl (fun h20=>?_) (fun h20=>?_)
     ·try simp only [decide_eq_false_iff_not,Bool.and_eq_true,Bool.not_eq_true'] at h20
      try simp only [zds] at h20
      refine qC ?_;refine qB ?_;refine qM ?_;rfl
     ·try simp only [decide_eq_true_eq,Bool.not_eq_false',Bool.and_eq_false_iff] at h20
      try simp only [zds] at h20
      exact absurd (h20.resolve_left (fun e=>by cases e)) hn
   ·try simp only [decide_eq_false_iff_not,Int.not_lt] at h8
    try simp only [zds] at h8
    exact absurd h8 (by decide)
end Q
end Ab
end Go.Proofs.YtlbainbjlibfiaaGreatDoor
namespace Go.Proofs.YtlbainbjlibfiaaGreatDoor
open Go.RowKit
namespace Ab
set_option maxRecDepth 100000
namespace Q
def LinesOk (l : List ByteArray) : Prop:=l.length ≤ 1000000 ∧ (l.map (·.size)).sum ≤ 100000000
theorem sum_mem {l : List ByteArray} {s : ByteArray} (h : s ∈ l) : s.size ≤ (l.map (·.size)).sum:=by
  induction l with
  | nil=>cases h
  | cons a r ih =>
    rw [List.map_cons,List.sum_cons];rcases List.mem_cons.1 h with rfl|h
    · omega
    · have:=ih h;omega
def unfA (l : List ByteArray) : A:=if (yL (l.map ls)).2 = 0 then .tup [(true,[.lit (.string (bytes (yL (l.map ls)).1.1)),.lit (.string (bytes (yL (l.map ls)).1.2))]),(false,[.lit .nilIface])]
  else .tup [(true,[.lit (.string ⟨#[]⟩),.lit (.string ⟨#[]⟩)]),(false,[errN (yL (l.map ls)).2])]
theorem unfA_bad {l : List ByteArray} {n : Int} (h : (yL (l.map ls)).2 = n) (hn : n ≠ 0) : unfA l = .tup [(true,[.lit (.string ⟨#[]⟩),.lit (.string ⟨#[]⟩)]),(false,[errN n])]:=by
  unfold unfA;rw [if_neg (by rw [h];exact hn),h]
theorem unfA_ok {l : List ByteArray} {k v : List UInt8} (h : yL (l.map ls) = ((k,v),0)) : unfA l = .tup [(true,[.lit (.string (bytes k)),.lit (.string (bytes v))]),(false,[.lit .nilIface])]:=by
  unfold unfA;rw [if_pos (by rw [h]),h]
theorem trimP_len (s p : List UInt8) : (Lib.trimPrefix s p).length ≤ s.length:=by
  unfold Lib.trimPrefix;split
  · rw [List.length_drop];omega
  · exact Nat.le_refl _
theorem joinL_len (c : UInt8) : ∀ l : List (List UInt8),(Lib.join l [c]).length ≤ (l.map (·.length)).sum + l.length
  | []=>by simp [Lib.join]
  | [a]=>by rw [Lib.join_one];simp
  | a :: b :: r=>by
    have:=joinL_len c (b :: r);rw [join_two];simp only [List.length_append,List.length_cons,List.length_nil,List.map_cons,List.sum_cons] at this ⊢;omega
theorem map_sum_le {α : Type} (f g : α → Nat) : ∀ l : List α,(∀ x ∈ l,f x ≤ g x) → (l.map f).sum ≤ (l.map g).sum
  | [],_=>Nat.le_refl _
  | a :: r,h=>by
    simp only [List.map_cons,List.sum_cons];have:=h a (by simp);have:=map_sum_le f g r fun x hx=>h x (by simp [hx])
    omega
def moreB (s : ByteArray) : ByteArray:=bytes (Lib.trimPrefix (s.data.toList.drop 1) [46])
def firstB (s : ByteArray) : ByteArray:=bytes (Lib.trimPrefix (Lib.cut s.data.toList [58]).2.1 [32])
theorem value_join (s : ByteArray) (r : List ByteArray) : Lib.join ((firstB s :: r.map moreB).map (·.data.toList)) [10] = valueL (ls s) (r.map ls):=by
  unfold valueL firstB moreB;rw [List.map_cons,yA,List.map_map,List.map_map]
  congr 2
theorem value_len (s : ByteArray) (r : List ByteArray) : (valueL (ls s) (r.map ls)).length ≤ s.size + (r.map (·.size)).sum + r.length + 1:=by
  unfold valueL;refine Nat.le_trans (joinL_len 10 _) ?_;rw [List.map_cons,List.sum_cons,List.length_cons,List.map_map,List.map_map,List.length_map,List.length_map];have h1:=trimP_len (Lib.cut (ls s) [58]).2.1 [32];have h2:=(cut_len (ls s) [58]).2;have h3 : s.size = (ls s).length:=qY s;have h4:=map_sum_le (((fun l : List UInt8=>l.length) ∘ (fun s : List UInt8=>Lib.trimPrefix (s.drop 1) [46])) ∘ ls) (fun s : ByteArray=>s.size) r fun x _=>by
    have h5:=trimP_len ((ls x).drop 1) [46];have h6 : x.size = (ls x).length:=qY x;simp only [Function.comp];rw [List.length_drop] at h5;omega
  omega
theorem cutL_ok {l : List UInt8} (h : (cutL l).2.2 = true) : qZ l = 4 ∧ cutL l = Lib.cut l [58] ∧ keyOk (Lib.cut l [58]).1 = true:=by
  unfold cutL at h ⊢;split
  · rename_i h4;refine ⟨h4,rfl,?_⟩;have:=h4;unfold qZ at this;split at this
    · cases this
    · split at this
      · cases this
      · split at this
        · cases this
        · split at this
          · cases this
          · split at this
            · rename_i h5;rw [Bool.and_eq_true] at h5;exact h5.2
            · cases this
  · rename_i h4;rw [if_neg h4] at h;cases h
theorem cutL_no {l : List UInt8} (h : (cutL l).2.2 = false) : qZ l ≠ 4:=fun h4=>by
  unfold cutL at h;rw [if_pos h4] at h;unfold qZ at h4;split at h4
  · cases h4
  · split at h4
    · cases h4
    · split at h4
      · cases h4
      · split at h4
        · cases h4
        · split at h4
          · rename_i h5;rw [Bool.and_eq_true] at h5;rw [h] at h5;cases h5.1
          · cases h4
theorem kind3_pos {l : List UInt8} (h : qZ l = 3) : 1 ≤ l.length:=by
  cases l with
  | nil=>cases h
  | cons a r=>simp
theorem unf_form {s : ByteArray} {r : List ByteArray} (h : qZ (ls s) ≠ 4 ∨ ∃ x ∈ r,qZ (ls x) ≠ 3) : (yL ((s :: r).map ls)).2 = 2:=by
  rw [List.map_cons,yL,if_pos];rcases h with h|⟨x,hx,h⟩
  · exact .inl h
  · exact .inr (List.any_eq_true.2 ⟨ls x,List.mem_map.2 ⟨x,hx,rfl⟩,by rw [decide_eq_false h];rfl⟩)
theorem unf_good {s : ByteArray} {r : List ByteArray} (h : qZ (ls s) = 4) (hr : ∀ x ∈ r,qZ (ls x) = 3) : yL ((s :: r).map ls) = if 1000 < (valueL (ls s) (r.map ls)).length then (([],[]),6) else (((Lib.cut (ls s) [58]).1,valueL (ls s) (r.map ls)),0):=by
  rw [List.map_cons,yL,if_neg]
  rintro (h1|h1)
  · exact h1 h
  · obtain ⟨x,hx,h2⟩:=List.any_eq_true.1 h1;obtain ⟨y,hy,rfl⟩:=List.mem_map.1 hx;rw [hr y hy] at h2;exact absurd h2 (by decide)
theorem lcut_v (s : ByteArray) (c : List UInt8 × List UInt8 × Bool) (hc : cutL s.data.toList = c) (hs : s.size ≤ 1000000000) : qW Tryz.prog 166 [is s] (cutA c):=by
  subst hc;exact lcut_c s hs
theorem drop_size (s : ByteArray) (n : Nat) : (s.extract n s.size).data.toList = s.data.toList.drop n:=by
  rw [extract_ls,List.take_of_length_le (by rw [List.length_drop,qY];omega)]
theorem more_eq (s : ByteArray) : (⟨(Lib.trimPrefix (s.extract (Int.toNat 1) (s.size : Int).toNat).data.toList ({ data:=#[46] } : ByteArray).data.toList).toArray⟩ : ByteArray) = moreB s:=by
  rw [Int.toNat_natCast,show Int.toNat 1 = 1 from rfl,drop_size];rfl
theorem join_v (s : ByteArray) (r : List ByteArray) (h : LinesOk (s :: r)) : qW Tryz.prog 120 [.one (.sl .str (firstB s :: r.map moreB)),is ⟨#[10]⟩] (is (bytes (valueL (ls s) (r.map ls)))):=by
  have h1:=h.1;have h2:=h.2;simp only [List.length_cons,List.map_cons,List.sum_cons] at h1 h2;have hv:=value_len s r;have:=join_c (firstB s :: r.map moreB) ⟨#[10]⟩ (by simp only [List.length_cons,List.length_map];omega) (by rw [show (⟨#[10]⟩ : ByteArray).data.toList = [10] from rfl,value_join];omega);rw [show (⟨#[10]⟩ : ByteArray).data.toList = [10] from rfl,value_join] at this;exact this
theorem check_kv (k v : List UInt8) (hk : keyOk k = true) : yR (bytes k,bytes v) = if 1000 < v.length then 6 else 0:=by
  unfold yR;rw [if_pos (by rw [yA];exact hk),yI]
theorem unfold_c (s0 : ByteArray) (r : List ByteArray) (hl : LinesOk (s0 :: r)) : qW Tryz.prog 146 [.one (.sl .str (s0 :: r))] (unfA (s0 :: r)):=by
  obtain ⟨l,hl0⟩ : ∃ l,s0 :: r = l:=⟨_,rfl⟩;rw [hl0] at hl ⊢;have hsz : ∀ x ∈ l,x.size ≤ 100000000:=fun x hx=>Nat.le_trans (sum_mem hx) hl.2
  have hll:=hl.1;have hd : l.drop 1 = r:=by rw [← hl0];rfl
  have h0 : l.getD 0 ByteArray.empty = s0:=by rw [← hl0];rfl
  have hs0 : s0.size ≤ 100000000:=hsz _ (by rw [← hl0];simp);obtain ⟨c,hc⟩ : ∃ c,cutL s0.data.toList = c:=⟨_,rfl⟩;have hlen : l.length = r.length + 1:=by rw [← hl0];rfl
  have hdl : (l.drop 1).length = l.length - 1:=List.length_drop;refine yY (rs:=[.cell 2 73,.tmp 3]) Tryz.func146 rfl rfl rfl teOk rfl ?_;refine qC ?_;refine qB ?_;refine qC ?_;refine qC ?_;refine qB ?_;intro l1_1
  try simp only [zds] at l1_1
  refine qK rfl (fun h14=>?_) (fun h14=>?_)
  ·try simp only [decide_eq_true_eq] at h14
   try simp only [zds] at h14
   exfalso;omega
  ·try simp only [decide_eq_false_iff_not] at h14
   try simp only [zds] at h14
   refine qN ?_;refine qC ?_;refine qB ?_;refine zai (by first|omega|assumption|decide|(simp only [zds];omega)|(simp <;> omega)) ?_;refine Or.inl ?_;refine zai (rfl) ?_;refine zei _ (zai ((lcut_v (l.getD 0 ByteArray.empty) c (by rw [h0];exact hc) (by rw [h0];omega))) ?_);refine qC ?_;refine qC ?_;refine qB ?_;refine qK rfl (fun h26=>?_) (fun h26=>?_)
   ·try simp only [Bool.not_eq_true'] at h26
    try simp only [zds] at h26
    refine qC ?_;refine qB ?_;refine qM ?_;rw [unfA_bad (n:=2) (by rw [← hl0];exact unf_form (.inl (cutL_no (by rw [show ls s0 = s0.data.toList from rfl,hc];exact h26)))) (by decide)];rfl
   ·try simp only [Bool.not_eq_false'] at h26
    try simp only [zds] at h26
    have hco : (cutL s0.data.toList).2.2 = true:=by rw [hc];exact h26
    obtain ⟨hk4,hcc,hko⟩:=cutL_ok hco;have hcl : c = Lib.cut s0.data.toList [58]:=by rw [← hc,hcc]
    refine qN ?_;refine qC ?_;refine qB ?_;refine Or.inl ?_;refine zai (rfl) ?_;refine zei _ (zai (trimPrefix_c _ _) ?_);refine qC ?_;refine qC ?_;refine qB ?_;refine zai (by first|omega|assumption|decide|(simp only [zds];omega)|(simp <;> omega)) ?_;intro l7_2
    try simp only [zds] at l7_2
    refine qP ?_;refine qV (fun (i : Nat)=>i ≤ (l.drop 1).length ∧ ∀ x ∈ (l.drop 1).take i,qZ (ls x) = 3) (fun (i : Nat)=>[(2,.one (.own 0 0)),(4,is (bytes c.1)),(7,.one (.vec 1)),(33,.one (.sl .str (l.drop 1))),(34,ii .i64 (l.drop 1).length),(35,ii .i64 i)]) (fun (i : Nat)=>[(0,.box 73 [.lit (.string ⟨#[]⟩),.lit (.string ⟨#[]⟩)]),(1,.vec 9 .str (firstB s0 :: ((l.drop 1).take i).map moreB))]) 2 (fun (i : Nat)=>(l.drop 1).length - i) 0 (⟨Nat.zero_le _,by simp⟩) (qQ ⟨rfl,rfl,rfl,rfl,rfl,rfl⟩ ⟨rfl,(qS (by rw [List.take_zero,List.map_nil,yA,hcl];rfl))⟩ rfl) ?_;intro i hI0;obtain ⟨hi,hall⟩:=hI0;refine qC ?_;refine qB ?_;refine qC ?_;refine qK rfl (fun h36=>?_) (fun h36=>?_)
    ·try simp only [decide_eq_true_eq] at h36
     try simp only [zds] at h36
     have hlt : i < (l.drop 1).length:=by omega
     have hm:=List.mem_of_mem_drop (yK hlt ByteArray.empty);have hms:=hsz _ hm;refine qN ?_;refine qC ?_;refine qP ?_;refine qC ?_;refine qB ?_;refine zai (by first|omega|assumption|decide|(simp only [zds];omega)|(simp <;> omega)) ?_;refine qC ?_;refine qC ?_;refine qB ?_;refine Or.inl ?_;refine zai (rfl) ?_;refine zei _ (zai (kind_c ((l.drop 1).getD i ByteArray.empty) (by omega)) ?_);refine qK rfl (fun h41=>?_) (fun h41=>?_)
     ·try simp only [decide_eq_false_iff_not,Bool.not_eq_true'] at h41
      try simp only [zds] at h41
      refine qC ?_;refine qB ?_;refine qM ?_;rw [unfA_bad (n:=2) (by rw [← hl0];exact unf_form (.inr ⟨_,by rw [← hd];exact yK hlt ByteArray.empty,h41⟩)) (by decide)];rfl
     ·try simp only [decide_eq_true_eq,Bool.not_eq_false'] at h41
      try simp only [zds] at h41
      have h1:=kind3_pos h41;have hz:=qY ((l.drop 1).getD i ByteArray.empty);refine qN ?_;refine qB ?_;refine zai (by first|omega|assumption|decide|(simp only [Int.toNat_natCast,qF];omega)|(simp <;> omega)) ?_;refine Or.inl ?_;refine zai (rfl) ?_;refine zei _ (zai (trimPrefix_c _ _) ?_);refine zai (by first|exact qR (by first|omega|(simp only [List.length_cons,List.length_nil,List.length_map,List.length_take,List.length_drop];omega)|(simp;omega)) (by decide)|omega|assumption|decide|(simp only [zds];omega)|(simp <;> omega)) ?_;refine qB ?_;refine zai (by first|omega|assumption|decide|(simp only [zds];omega)|(simp <;> omega)) ?_;exact ⟨i + 1,⟨by omega,by rw [← yO ByteArray.empty hlt];intro f hf;rcases List.mem_append.1 hf with h|h;exact hall f h;rw [List.mem_singleton.1 h];exact h41⟩,by first|omega|(simp <;> omega),qQ ⟨rfl,rfl,rfl,rfl,rfl,(qU (by omega))⟩ ⟨rfl,(qS (map_next moreB ByteArray.empty hlt _ (more_eq _) [_]))⟩ rfl⟩
    ·try simp only [decide_eq_false_iff_not,Int.not_lt] at h36
     try simp only [zds] at h36
     rw [List.take_of_length_le (by omega)] at hall ⊢;rw [hd] at hall ⊢;refine qX ?_;refine qC ?_;refine qB ?_;refine Or.inl ?_;refine zai (rfl) ?_;refine zei _ (zai (join_v s0 r (by rw [hl0];exact hl)) ?_);refine qC ?_;refine qC ?_
     by_cases hv : 1000 < (valueL (ls s0) (r.map ls)).length
     ·refine qB ?_;refine Or.inl ?_;refine zai (rfl) ?_;refine zei _ (zai ((check_v (bytes c.1,bytes (valueL (ls s0) (r.map ls))) 6 (by rw [yI];have:=(cut_len s0.data.toList [58]).1;rw [hcl];rw [qY] at hs0;omega) (by rw [check_kv _ _ (by rw [hcl];exact hko),if_pos hv]) : qW _ _ _ (.one (errN 6)))) ?_);refine qC ?_;refine qB ?_;refine qK rfl (fun h58=>?_) (fun h58=>?_)
      ·skip
       refine qC ?_;refine qB ?_;refine qM ?_;rw [unfA_bad (n:=6) (by rw [← hl0,unf_good hk4 hall,if_pos hv]) (by decide)];rfl
      ·try simp only [zbq] at h58
       try simp only [zds] at h58
       cases h58
     ·refine qB ?_;refine Or.inl ?_;refine zai (rfl) ?_;refine zei _ (zai ((check_v (bytes c.1,bytes (valueL (ls s0) (r.map ls))) 0 (by rw [yI];have:=(cut_len s0.data.toList [58]).1;rw [hcl];rw [qY] at hs0;omega) (by rw [check_kv _ _ (by rw [hcl];exact hko),if_neg hv]) : qW _ _ _ (.one (.lit .nilIface)))) ?_);refine qC ?_;refine qB ?_;refine qK rfl (fun h58=>?_) (fun h58=>?_)
      ·try simp only [Bool.not_eq_true'] at h58
       try simp only [zds] at h58
       cases h58
      ·try simp only [Bool.not_eq_false'] at h58
       try simp only [zds] at h58
       refine qN ?_;refine qC ?_;refine qB ?_;refine qM ?_;rw [unfA_ok (k:=c.1) (v:=valueL (ls s0) (r.map ls)) (by rw [← hl0,unf_good hk4 hall,if_neg hv,hcl])];rfl
end Q
end Ab
end Go.Proofs.YtlbainbjlibfiaaGreatDoor
namespace Go.Proofs.YtlbainbjlibfiaaGreatDoor
open Go.RowKit
namespace Ab
set_option maxRecDepth 100000
namespace Q
theorem unfold_e : qW Tryz.prog 146 [.one (.sl .str [])] (unfA []):=by
  refine yY (rs:=[.cell 2 73,.tmp 3]) Tryz.func146 rfl rfl rfl teOk rfl ?_;refine qC ?_;refine qB ?_;refine qC ?_;refine qC ?_;refine qB ?_;intro l1_1
  try simp only [zds] at l1_1
  refine qK rfl (fun h14=>?_) (fun h14=>?_)
  ·try simp only [decide_eq_true_eq] at h14
   try simp only [zds] at h14
   refine qC ?_;refine qB ?_;refine qM ?_;rfl
  ·try simp only [decide_eq_false_iff_not] at h14
   try simp only [zds] at h14
   exact absurd rfl h14
theorem unfold_a (l : List ByteArray) (hl : LinesOk l) : qW Tryz.prog 146 [.one (.sl .str l)] (unfA l):=by
  cases l with
  | nil=>exact unfold_e
  | cons s r=>exact unfold_c s r hl
theorem kind4_key {l : List UInt8} (h4 : qZ l = 4) : 10 ∉ l ∧ ((Lib.cut l [58]).2.2 && keyOk (Lib.cut l [58]).1) = true:=by
  unfold qZ at h4;split at h4
  · cases h4
  · rename_i h10;refine ⟨h10,?_⟩;split at h4
    · cases h4
    · split at h4
      · cases h4
      · split at h4
        · cases h4
        · split at h4
          · rename_i h5;exact h5
          · cases h4
theorem unf_cases (L : List (List UInt8)) : (∃ n,(n = 2 ∨ n = 6) ∧ yL L = (([],[]),n)) ∨ ∃ k v,yL L = ((k,v),0) ∧ keyOk k = true ∧ v.length ≤ 1000:=by
  cases L with
  | nil=>exact .inl ⟨2,.inl rfl,rfl⟩
  | cons a r =>
    rw [yL];split
    · exact .inl ⟨2,.inl rfl,rfl⟩
    · rename_i h1;split
      · exact .inl ⟨6,.inr rfl,rfl⟩
      · rename_i h2;have h4 : qZ a = 4:=Classical.not_not.1 fun h=>h1 (.inl h)
        have:=(kind4_key h4).2;rw [Bool.and_eq_true] at this;exact .inr ⟨_,_,rfl,this.2,by omega⟩
theorem unfold_bad (l : List ByteArray) (hl : LinesOk l) {n : Int} (h : yL (l.map ls) = (([],[]),n)) (hn : n = 2 ∨ n = 6) : qW Tryz.prog 146 [.one (.sl .str l)] (.tup [(true,[.lit (.string ⟨#[]⟩),.lit (.string ⟨#[]⟩)]),(false,[errN n])]):=by
  have:=unfold_a l hl;rw [unfA_bad (n:=n) (by rw [h]) (by rcases hn with rfl|rfl <;> decide)] at this;exact this
theorem unfold_ok (l : List ByteArray) (hl : LinesOk l) {k v : List UInt8} (h : yL (l.map ls) = ((k,v),0)) : qW Tryz.prog 146 [.one (.sl .str l)] (.tup [(true,[.lit (.string (bytes k)),.lit (.string (bytes v))]),(false,[.lit .nilIface])]):=by
  have:=unfold_a l hl;rw [unfA_ok h] at this;exact this
def plainL (l : List ByteArray) : Bool:=decide ((yL (l.map ls)).2 = 0) && decide (xM (bytes (yL (l.map ls)).1.1) (bytes (yL (l.map ls)).1.2) = l)
theorem kind3_two {l : List UInt8} (h : qZ l = 3) : 2 ≤ l.length:=by
  match l with
  | []=>cases h
  | [a] =>
    exfalso
    unfold qZ at h;split at h
    · cases h
    · split at h
      · cases h
      · rename_i h2;split at h
        · cases h
        · split at h
          · rename_i h4;unfold blankL at h4;simp at h2 h4;rw [h4] at h2;cases h2
          · split at h <;> cases h
  | a :: b :: r=>simp
theorem valueL_snoc (s : List UInt8) (r : List (List UInt8)) (x : List UInt8) : valueL s (r ++ [x]) = valueL s r ++ ([10] ++ Lib.trimPrefix (x.drop 1) [46]):=by
  unfold valueL;rw [List.map_append,List.map_cons,List.map_nil,← List.cons_append,join_snoc _ _ (by simp)]
theorem trimP_yes {c : UInt8} {l : List UInt8} (h : 0 < l.length) (hc : l.getD 0 0 = c) : Lib.trimPrefix l [c] = l.drop 1:=by
  unfold Lib.trimPrefix;rw [if_pos]
  · rfl
  · rw [xU];cases l with
    | nil=>cases h
    | cons a b=>simp only [List.getD_cons_zero] at hc;rw [hc];simp
theorem trimP_no {c : UInt8} {l : List UInt8} (hc : l.getD 0 0 ≠ c ∨ l = []) : Lib.trimPrefix l [c] = l:=by
  unfold Lib.trimPrefix;rw [if_neg];rw [xU];cases l with
  | nil=>simp
  | cons a b =>
    rcases hc with hc|hc
    · simp only [List.getD_cons_zero] at hc;simp [hc]
    · cases hc
def refUnfA (l : List ByteArray) : A:=.tup [(true,[.lit (.string (bytes (yL (l.map ls)).1.1)),.lit (.string (bytes (yL (l.map ls)).1.2))]),(false,[.lit (.int .i64 (yL (l.map ls)).2)])]
theorem refUnfA_eq {l : List ByteArray} {k v : List UInt8} {n : Int} (h : yL (l.map ls) = ((k,v),n)) : refUnfA l = .tup [(true,[.lit (.string (bytes k)),.lit (.string (bytes v))]),(false,[.lit (.int .i64 n)])]:=by
  unfold refUnfA;rw [h]
theorem unf_form2 {s : ByteArray} {r : List ByteArray} (h : qZ (ls s) ≠ 4 ∨ ∃ x ∈ r,qZ (ls x) ≠ 3) : yL ((s :: r).map ls) = (([],[]),2):=by
  rw [List.map_cons,yL,if_pos];rcases h with h|⟨x,hx,h⟩
  · exact .inl h
  · exact .inr (List.any_eq_true.2 ⟨ls x,List.mem_map.2 ⟨x,hx,rfl⟩,by rw [decide_eq_false h];rfl⟩)
theorem take_map_ls (r : List ByteArray) (i : Nat) (h : i < r.length) : (r.take (i + 1)).map ls = (r.take i).map ls ++ [ls (r.getD i ByteArray.empty)]:=by
  rw [← yO ByteArray.empty h,List.map_append];rfl
theorem ext1 (s : ByteArray) : s.extract (Int.toNat 1) (s.size : Int).toNat = bytes (s.data.toList.drop 1):=by
  rw [Int.toNat_natCast,show Int.toNat 1 = 1 from rfl];exact ls_inj (drop_size s 1)
theorem ext1' (s : ByteArray) : s.extract (Int.toNat 1) s.size = bytes (s.data.toList.drop 1):=ext1 s
theorem refUnfold_e : qW Tryz.prog 99 [.one (.sl .str [])] (refUnfA []):=by
  refine yY (rs:=[.cell 2 73,.tmp 3]) Tryz.func99 rfl rfl rfl teOk rfl ?_;refine qC ?_;refine qB ?_;refine qC ?_;refine qC ?_;refine qB ?_;intro l1_1
  try simp only [zds] at l1_1
  refine zai (fun h=>trivial) ?_;refine zai (fun h=>⟨⟨⟨h,trivial⟩,trivial⟩,by exact absurd h (by decide)⟩) ?_;refine zai (fun h=>⟨⟨h,trivial⟩,trivial⟩) ?_;refine Or.inl ?_;refine zai (rfl) ?_;refine zei _ (zai (fun h=>⟨⟨⟨h,trivial⟩,trivial⟩,(absurd h (by decide) : qW _ _ _ (ii .i64 0))⟩) ?_);refine zai (fun h=>⟨⟨h,trivial⟩,trivial⟩) ?_;refine zai (by first|(intro h;rw [h];rfl)|(intro h;cases h)) ?_;refine qK rfl (fun h18=>?_) (fun h18=>?_)
  ·try simp only [decide_eq_true_eq,decide_eq_false_iff_not,Bool.not_eq_true',Bool.or_eq_true] at h18
   try simp only [zds] at h18
   refine qC ?_;refine qB ?_;refine qM ?_;rfl
  ·try simp only [decide_eq_true_eq,decide_eq_false_iff_not,Bool.not_eq_false',Bool.or_eq_false_iff] at h18
   try simp only [zds] at h18
   exact absurd h18.1 (by decide)
theorem refUnfold_c (s0 : ByteArray) (r : List ByteArray) (hl : LinesOk (s0 :: r)) : qW Tryz.prog 99 [.one (.sl .str (s0 :: r))] (refUnfA (s0 :: r)):=by
  obtain ⟨l,hl0⟩ : ∃ l,s0 :: r = l:=⟨_,rfl⟩;rw [hl0] at hl ⊢;have hsz : ∀ x ∈ l,x.size ≤ 100000000:=fun x hx=>Nat.le_trans (sum_mem hx) hl.2
  have hll:=hl.1;have h0 : l.getD 0 ByteArray.empty = s0:=by rw [← hl0];rfl
  have hget : ∀ i,l.getD (i + 1) ByteArray.empty = r.getD i ByteArray.empty:=fun i=>by rw [← hl0];rfl
  have hs0 : s0.size ≤ 100000000:=hsz _ (by rw [← hl0];simp);have hz0:=qY s0;have hlen : l.length = r.length + 1:=by rw [← hl0];rfl
  obtain ⟨c,hc⟩ : ∃ c,Lib.cut s0.data.toList [58] = c:=⟨_,rfl⟩;have hcl:=(cut_len s0.data.toList [58]);rw [hc] at hcl;obtain ⟨v0,hv0⟩ : ∃ v,Lib.trimPrefix c.2.1 [32] = v:=⟨_,rfl⟩;have hval0 : valueL (ls s0) ((r.take 0).map ls) = v0:=by
    unfold valueL;rw [← hv0,← hc];simp [Lib.join_one]
  have hvl : ∀ i,i ≤ r.length → (valueL (ls s0) ((r.take i).map ls)).length ≤ 300000000:=fun i hi=>by
    have h1:=value_len s0 (r.take i);have h2:=hl.2;rw [← hl0,List.map_cons,List.sum_cons] at h2;have h3 : ((r.take i).map (·.size)).sum ≤ (r.map (·.size)).sum:=by
      conv=>rhs;rw [← List.take_append_drop i r,List.map_append,List.sum_append]
      omega
    rw [List.length_take] at h1;omega
  refine yY (rs:=[.cell 2 73,.tmp 3]) Tryz.func99 rfl rfl rfl teOk rfl ?_;refine qC ?_;refine qB ?_;refine qC ?_;refine qC ?_;refine qB ?_;intro l1_1
  try simp only [zds] at l1_1
  refine zai (fun h=>trivial) ?_;refine zai (fun h=>⟨⟨⟨h,trivial⟩,trivial⟩,by (rw [hlen];omega)⟩) ?_;refine zai (fun h=>⟨⟨h,trivial⟩,trivial⟩) ?_;refine Or.inl ?_;refine zai (rfl) ?_;refine zei _ (zai (fun h=>⟨⟨⟨h,trivial⟩,trivial⟩,refKind_c (l.getD 0 ByteArray.empty) (by rw [h0];omega)⟩) ?_);refine zai (fun h=>⟨⟨h,trivial⟩,trivial⟩) ?_;refine zai (by first|(intro h;rw [h];rfl)|(intro h;cases h)) ?_;refine qK rfl (fun h18=>?_) (fun h18=>?_)
  ·try simp only [decide_eq_true_eq,decide_eq_false_iff_not,Bool.not_eq_true',Bool.or_eq_true] at h18
   try simp only [zds] at h18
   have hk : qZ (ls s0) ≠ 4:=by rcases h18 with h|h;exfalso;omega;rw [h0] at h;exact h
   refine qC ?_;refine qB ?_;refine qM ?_;rw [← hl0,refUnfA_eq (unf_form2 (.inl hk))];rfl
  ·try simp only [decide_eq_true_eq,decide_eq_false_iff_not,Bool.not_eq_false',Bool.or_eq_false_iff] at h18
   try simp only [zds] at h18
   have hk4 : qZ (ls s0) = 4:=by have:=h18.2;rw [h0] at this;exact this
   obtain ⟨h10,hkk⟩:=kind4_key hk4;refine qN ?_;refine qC ?_;refine qB ?_;refine zai (by omega) ?_;refine Or.inl ?_;refine zai (rfl) ?_;refine zei _ (zai ((refCut_v (l.getD 0 ByteArray.empty) c (by rw [h0];unfold refCutL;rw [if_neg h10,if_pos (by exact hkk)];exact hc) (by rw [h0];omega))) ?_);refine acode_cut (fun (u : Unit)=>True) (fun (u : Unit)=>[(0,.one (.sl .str l)),(2,.one (.own 0 0)),(4,is (bytes c.1)),(5,is (bytes v0))]) (fun (u : Unit)=>[(0,.box 73 [.lit (.string ⟨#[]⟩),.lit (.string ⟨#[]⟩)])]) 1 ?_ ?_
   ·refine qC ?_;refine qB ?_;refine zai (fun h=>trivial) ?_;refine zai (fun h=>⟨⟨⟨h,trivial⟩,trivial⟩,by (have:=of_decide_eq_true (by simpa [gq] using h);omega)⟩) ?_;refine zai (fun h=>⟨⟨h,trivial⟩,trivial⟩) ?_;refine zai (by exact fun h=>h) ?_;refine qK rfl (fun h35=>?_) (fun h35=>?_)
    ·try simp only [decide_eq_true_eq,Bool.and_eq_true] at h35
     try simp only [zds] at h35
     refine qB ?_;refine zai (by first|omega|assumption|decide|(simp only [zds];omega)|(simp <;> omega)) ?_;exact ⟨(),trivial,qQ ⟨rfl,rfl,rfl,(is_eq (by rw [ext1,yA,← hv0,trimP_yes (by have:=h35.1;rw [yI] at this;omega) (u8_eq (b:=32) (by have:=h35.2;rw [yA] at this;exact this))]))⟩ rfl rfl⟩
    ·try simp only [decide_eq_false_iff_not,Bool.and_eq_false_iff,Int.not_lt] at h35
     try simp only [zds] at h35
     refine qN ?_;exact ⟨(),trivial,qQ ⟨rfl,rfl,rfl,(is_eq (by rw [← hv0,trimP_no (h35.elim (fun h=>.inr (List.eq_nil_of_length_eq_zero (by rw [yI] at h;omega))) (fun h=>.inl (fun e=>h (by rw [yA];rw [show c.2.1.getD (Int.toNat 0) 0 = 32 from e];rfl))))]))⟩ rfl rfl⟩
   ·intro u hcut6;refine qC ?_;refine qC ?_;refine qB ?_;refine qP ?_;refine qV (fun (i : Nat)=>i ≤ r.length ∧ ∀ x ∈ r.take i,qZ (ls x) = 3) (fun (i : Nat)=>[(0,.one (.sl .str l)),(2,.one (.own 0 0)),(4,is (bytes c.1)),(5,is (bytes (valueL (ls s0) ((r.take i).map ls)))),(7,ii .i64 ((i : Int) + 1))]) (fun (i : Nat)=>[(0,.box 73 [.lit (.string ⟨#[]⟩),.lit (.string ⟨#[]⟩)])]) 1 (fun (i : Nat)=>r.length - i) 0 (⟨Nat.zero_le _,by simp⟩) (qQ ⟨rfl,rfl,rfl,(is_eq (by rw [hval0])),rfl⟩ rfl rfl) ?_;intro i hI0;obtain ⟨hi,hall⟩:=hI0;refine qC ?_;refine qC ?_;refine qB ?_;intro l7_2
    try simp only [zds] at l7_2
    refine qK rfl (fun h41=>?_) (fun h41=>?_)
    ·try simp only [decide_eq_true_eq] at h41
     try simp only [zds] at h41
     have hlt : i < r.length:=by omega
     have hgi : l.getD ((i : Int) + 1).toNat ByteArray.empty = r.getD i ByteArray.empty:=by rw [show ((i : Int) + 1).toNat = i + 1 by omega,hget]
     have hm : r.getD i ByteArray.empty ∈ l:=by rw [← hl0];exact List.mem_cons_of_mem _ (yK hlt _)
     have hms:=hsz _ hm;refine qN ?_;refine qC ?_;refine qP ?_;refine qC ?_;refine qC ?_;refine qB ?_;refine zai (by first|omega|assumption|decide|(simp only [zds];omega)|(simp <;> omega)) ?_;refine Or.inl ?_;refine zai (rfl) ?_;refine zei _ (zai (refKind_c (l.getD ((i : Int) + 1).toNat ByteArray.empty) (by rw [hgi];omega)) ?_);refine qK rfl (fun h49=>?_) (fun h49=>?_)
     ·try simp only [decide_eq_false_iff_not,Bool.not_eq_true'] at h49
      try simp only [zds] at h49
      rw [hgi] at h49;refine qC ?_;refine qB ?_;refine qM ?_;rw [← hl0,refUnfA_eq (unf_form2 (.inr ⟨_,yK hlt ByteArray.empty,h49⟩))];rfl
     ·try simp only [decide_eq_true_eq,Bool.not_eq_false'] at h49
      try simp only [zds] at h49
      rw [hgi] at h49;have h2:=kind3_two h49;have hz:=qY (r.getD i ByteArray.empty);have hgs : (l.getD ((i : Int) + 1).toNat Rd.str.dflt).size = (r.getD i ByteArray.empty).size:=congrArg ByteArray.size hgi;refine qN ?_;refine qC ?_;refine qB ?_;refine zai (by first|omega|assumption|decide|(simp only [zds];omega)|(simp <;> omega)) ?_;refine zai (by first|omega|assumption|decide|(simp only [zds];omega)|(simp <;> omega)) ?_;refine acode_cut (fun (u : Unit)=>True) (fun (u : Unit)=>[(0,.one (.sl .str l)),(2,.one (.own 0 0)),(4,is (bytes c.1)),(5,is (bytes (valueL (ls s0) ((r.take i).map ls)))),(7,ii .i64 ((i : Int) + 1)),(8,is (bytes (Lib.trimPrefix ((ls (r.getD i ByteArray.empty)).drop 1) [46])))]) (fun (u : Unit)=>[(0,.box 73 [.lit (.string ⟨#[]⟩),.lit (.string ⟨#[]⟩)])]) 1 ?_ ?_
      ·refine qC ?_;refine qB ?_;refine zai (by (rw [show l.getD ((i : Int) + 1).toNat Rd.str.dflt = r.getD i ByteArray.empty from hgi,ext1,yI,List.length_drop];omega)) ?_;refine qK rfl (fun h58=>?_) (fun h58=>?_)
       ·try simp only [decide_eq_true_eq] at h58
        try simp only [Int.toNat_natCast,qF] at h58
        refine qB ?_;refine zai (by (rw [show l.getD ((i : Int) + 1).toNat Rd.str.dflt = r.getD i ByteArray.empty from hgi,ext1,yI,List.length_drop];omega)) ?_;exact ⟨(),trivial,qQ ⟨rfl,rfl,rfl,rfl,rfl,(is_eq (by rw [show l.getD ((i : Int) + 1).toNat Rd.str.dflt = r.getD i ByteArray.empty from hgi,ext1,ext1,yA,trimP_yes (by rw [List.length_drop];exact Nat.sub_pos_of_lt h2) (u8_eq (b:=46) (by rw [hgi,ext1',yA] at h58;exact h58))]))⟩ rfl rfl⟩
       ·try simp only [decide_eq_false_iff_not] at h58
        try simp only [Int.toNat_natCast,qF] at h58
        refine qN ?_;exact ⟨(),trivial,qQ ⟨rfl,rfl,rfl,rfl,rfl,(is_eq (by rw [show l.getD ((i : Int) + 1).toNat Rd.str.dflt = r.getD i ByteArray.empty from hgi,ext1,trimP_no (.inl (fun e=>h58 (by rw [hgi,ext1',yA,show (List.drop 1 (r.getD i ByteArray.empty).data.toList).getD (Int.toNat 0) 0 = 46 from e];rfl)))]))⟩ rfl rfl⟩
      ·intro u hcut14;have hvb : (bytes (valueL (ls s0) ((r.take i).map ls))).size ≤ 300000000:=by rw [yI];exact hvl i hi
       have htb : (bytes (Lib.trimPrefix ((ls (r.getD i ByteArray.empty)).drop 1) [46])).size ≤ 100000000:=by rw [yI];have h1:=trimP_len ((ls (r.getD i ByteArray.empty)).drop 1) [46];have h3 : (ls (r.getD i ByteArray.empty)).length = (r.getD i ByteArray.empty).size:=(qY _).symm;rw [List.length_drop] at h1;omega
       have hk10 : ByteArray.size ⟨#[10]⟩ = 1:=rfl;refine qB ?_;refine zai (by (have hk0 : ByteArray.size { data:=#[10] } = 1:=rfl;first|(unfold maxLen;omega)|(simp only [ByteArray.size_append];omega)|(unfold maxLen;(try simp only [ByteArray.size_append]);omega))) ?_;refine zai (by (have hk0 : ByteArray.size { data:=#[10] } = 1:=rfl;first|(unfold maxLen;omega)|(simp only [ByteArray.size_append];omega)|(unfold maxLen;(try simp only [ByteArray.size_append]);omega))) ?_;refine qB ?_;refine zai (by first|omega|assumption|decide|(simp only [zds];omega)|(simp <;> omega)) ?_;exact ⟨i + 1,⟨by omega,by rw [← yO ByteArray.empty hlt];intro f hf;rcases List.mem_append.1 hf with h|h;exact hall f h;rw [List.mem_singleton.1 h];exact h49⟩,by first|omega|(simp <;> omega),qQ ⟨rfl,rfl,rfl,(is_eq (by rw [take_map_ls r i hlt,valueL_snoc,xK,xK,ByteArray.append_assoc];rfl)),(qU (by omega))⟩ rfl rfl⟩
    ·try simp only [decide_eq_false_iff_not,Int.not_lt] at h41
     try simp only [zds] at h41
     rw [List.take_of_length_le (by omega)] at hall ⊢;have hvr:=hvl r.length (Nat.le_refl _);refine qX ?_;refine qC ?_;refine qC ?_;refine qB ?_;refine qK rfl (fun h67=>?_) (fun h67=>?_)
     ·try simp only [decide_eq_true_eq] at h67
      try simp only [zds] at h67
      refine qC ?_;refine qB ?_;refine qM ?_;rw [← hl0,refUnfA_eq (by rw [unf_good hk4 hall,if_pos (by rw [yI] at h67;omega)])];rfl
     ·try simp only [decide_eq_false_iff_not,Int.not_lt] at h67
      try simp only [zds] at h67
      refine qN ?_;refine qC ?_;refine qB ?_;refine qM ?_;rw [← hl0,refUnfA_eq (by rw [unf_good hk4 hall,if_neg (by rw [yI] at h67;omega),show Lib.cut (ls s0) [58] = c from hc])];rfl
end Q
end Ab
end Go.Proofs.YtlbainbjlibfiaaGreatDoor
namespace Go.Proofs.YtlbainbjlibfiaaGreatDoor
open Go.RowKit
namespace Ab
set_option maxRecDepth 100000
abbrev Itm:=Int × ByteArray × List Fld
abbrev rItm : Rd Itm:=.st (.int .i64) (.st .str (.sl rFld))
abbrev Lne:=Int × Int × ByteArray × Bool
abbrev rLne : Rd Lne:=.st (.int .i64) (.st (.int .i64) (.st .str .bool))
namespace Q
structure PSt where
  lns : List ByteArray
  frm : Int
  full : Bool
  its : List Itm
  blk : List ByteArray
  flds : List Fld
  recs : Int
def yV (p : PSt) : (Int × Int) ⊕ PSt :=
  if p.lns = [] then .inr p
  else if (yL (p.lns.map ls)).2 ≠ 0 then .inl (p.frm,(yL (p.lns.map ls)).2)
  else if p.full = true then .inl (p.frm,11)
  else .inr { p with flds:=p.flds ++ [(bytes (yL (p.lns.map ls)).1.1,bytes (yL (p.lns.map ls)).1.2)],lns:=[] }
def rawB (blk : List ByteArray) : ByteArray:=bytes (Lib.join (blk.map (·.data.toList)) [10]) ++ ⟨#[10]⟩
def closeS (q : PSt) : PSt :=
  if q.blk = [] then { q with blk:=[],flds:=[] }
  else { q with its:=q.its ++ [((if q.flds = [] then 2 else 3 : Int),rawB q.blk,q.flds)],recs:=if q.flds = [] then q.recs else q.recs + 1,blk:=[],flds:=[] }
def endS (p : PSt) : (Int × Int) ⊕ PSt:=match yV p with
  | .inl e=>.inl e
  | .inr q=>.inr (closeS q)
def xY (p : PSt) (l : Lne) : PSt:={ p with lns:=[l.2.2.1],frm:=l.1,full:=decide ((p.flds.length : Int) = 40) || (decide ((p.flds.length : Int) = 0) && decide (p.recs = 400)) }
def yU (p : PSt) (l : Lne) (kind : Int) : (Int × Int) ⊕ PSt :=
  if kind = 3 then
    if p.lns = [] then .inl (l.1,2)
    else if l.2.2.2 = true then .inr { p with lns:=p.lns ++ [l.2.2.1] }
    else yV { p with lns:=p.lns ++ [l.2.2.1] }
  else if kind = 1 then endS p
  else yV p
def lineS (q : PSt) (l : Lne) (kind : Int) : (Int × Int) ⊕ PSt :=
  if kind = 5 ∨ l.2.2.2 = false then .inl (l.1,2)
  else if kind = 1 then .inr { q with its:=q.its ++ [(1,l.2.2.1 ++ ⟨#[10]⟩,[])] }
  else if kind = 4 then .inr { xY q l with blk:=q.blk ++ [l.2.2.1] }
  else .inr { q with blk:=q.blk ++ [l.2.2.1] }
def yW (p : PSt) (l : Lne) : (Int × Int) ⊕ PSt:=match yU p l (qZ (ls l.2.2.1)) with
  | .inl e=>.inl e
  | .inr q=>lineS q l (qZ (ls l.2.2.1))
structure PB (p : PSt) (B : Nat) : Prop where
  lns : p.lns.length ≤ B
  lnb : (p.lns.map (·.size)).sum ≤ B
  its : p.its.length ≤ B
  blk : p.blk.length ≤ B
  blb : (p.blk.map (·.size)).sum ≤ B
  flds : p.flds.length ≤ B
  rec0 : 0 ≤ p.recs
  recB : p.recs ≤ B
theorem PB.mono {p : PSt} {B B' : Nat} (h : PB p B) (hB : B ≤ B') : PB p B' :=
  ⟨by have:=h.lns;omega,by have:=h.lnb;omega,by have:=h.its;omega,by have:=h.blk;omega,by have:=h.blb;omega,by have:=h.flds;omega,h.rec0,by have:=h.recB;omega⟩
theorem flushS_B {p q : PSt} {B : Nat} (h : PB p B) (hf : yV p = .inr q) : PB q (B + 1):=by
  unfold yV at hf;split at hf
  · cases hf;exact h.mono (by omega)
  · split at hf
    · cases hf
    · split at hf
      · cases hf
      · cases hf;have:=h.flds;exact ⟨by simp,by simp,by have:=h.its;simp only;omega,by have:=h.blk;simp only;omega,by have:=h.blb;simp only;omega,by simp;omega,h.rec0,by have:=h.recB;simp only;omega⟩
theorem closeS_B {p : PSt} {B : Nat} (h : PB p B) : PB (closeS p) (B + 1):=by
  have h1:=h.lns;have h2:=h.lnb;have h3:=h.its;have h4:=h.rec0;have h5:=h.recB;unfold closeS;split
  · exact ⟨by simp only;omega,by simp only;omega,by simp only;omega,by simp,by simp,by simp,h4,by simp only;omega⟩
  · refine ⟨by simp only;omega,by simp only;omega,by simp;omega,by simp,by simp,by simp,?_,?_⟩
    · simp only;split <;> omega
    · simp only;split <;> omega
theorem endS_B {p q : PSt} {B : Nat} (h : PB p B) (hf : endS p = .inr q) : PB q (B + 2):=by
  unfold endS at hf;split at hf
  · cases hf
  · rename_i r e;cases hf;exact closeS_B (flushS_B h e)
theorem more_B {p : PSt} {B : Nat} (s : ByteArray) (h : PB p B) : PB { p with lns:=p.lns ++ [s] } (B + 1 + s.size):=by
  have h1:=h.lns;have h2:=h.lnb;have h3:=h.its;have h5:=h.recB;have h6:=h.blk;have h7:=h.blb;have h8:=h.flds;exact ⟨by simp;omega,by simp;omega,by simp only;omega,by simp only;omega,by simp only;omega,by simp only;omega,h.rec0,by simp only;omega⟩
theorem aheadS_B {p q : PSt} {B : Nat} {l : Lne} {k : Int} (h : PB p B) (hf : yU p l k = .inr q) : PB q (B + 2 + l.2.2.1.size):=by
  unfold yU at hf;split at hf
  · split at hf
    · cases hf
    · split at hf
      · cases hf;exact (more_B _ h).mono (by omega)
      · exact (flushS_B (more_B _ h) hf).mono (by omega)
  · split at hf
    · exact (endS_B h hf).mono (by omega)
    · exact (flushS_B h hf).mono (by omega)
theorem lineS_B {p q : PSt} {B : Nat} {l : Lne} {k : Int} (h : PB p B) (hs : l.2.2.1.size ≤ B) (_hB : 1 ≤ B) (hf : lineS p l k = .inr q) : PB q (B + 1 + l.2.2.1.size):=by
  have h1:=h.lns;have h2:=h.lnb;have h3:=h.its;have h5:=h.recB;have h6:=h.blk;have h7:=h.blb;have h8:=h.flds;unfold lineS at hf;split at hf
  · cases hf
  · split at hf
    · cases hf;exact ⟨by simp only;omega,by simp only;omega,by simp;omega,by simp only;omega,by simp only;omega,by simp only;omega,h.rec0,by simp only;omega⟩
    · split at hf
      · cases hf;exact ⟨by simp [xY];omega,by simp [xY],by simp only [xY];omega,by simp;omega,by simp;omega,by simp only [xY];omega,h.rec0,by simp only [xY];omega⟩
      · cases hf;exact ⟨by simp only;omega,by simp only;omega,by simp only;omega,by simp;omega,by simp;omega,by simp only;omega,h.rec0,by simp only;omega⟩
theorem takeS_B {p q : PSt} {B : Nat} {l : Lne} (h : PB p B) (hf : yW p l = .inr q) : PB q (B + 3 + 2 * l.2.2.1.size):=by
  unfold yW at hf;split at hf
  · cases hf
  · rename_i r e;exact (lineS_B (aheadS_B h e) (by omega) (by omega) hf).mono (by omega)
def pst0 : PSt:=⟨[],0,false,[],[],[],0⟩
end Q
end Ab
end Go.Proofs.YtlbainbjlibfiaaGreatDoor
namespace Go.Proofs.YtlbainbjlibfiaaGreatDoor
open Go.RowKit
namespace Ab
set_option maxRecDepth 100000
namespace Q
theorem fault_c (at_ n : Int) : qW Tryz.prog 117 [ii .i64 at_,.one (errN n)] (.one (errF at_ n)):=by
  refine qT (rs:=[4]) Tryz.func117 rfl rfl rfl teOk rfl ?_;refine qC ?_;refine qB ?_;refine qC ?_;refine qB ?_;refine qM ?_;rfl
def psO (p : PSt) : Obs:=[(0,.box 159 [.vec 1,.lit (.int .i64 p.frm),.lit (.bool p.full),.vec 2,.vec 3,.vec 4,.lit (.int .i64 p.recs)]),(1,.vec 9 .str p.lns),(2,.vec 63 rItm p.its),(3,.vec 9 .str p.blk),(4,.vec 73 rFld p.flds)]
theorem flush_nil (p : PSt) (h : p.lns = []) : yD Tryz.prog 119 [.one (.own 0 0)] (psO p) 5 (.one (.lit .nilIface)) (psO p) 5:=by
  refine yB (rs:=[2]) Tryz.func119 rfl rfl rfl teOk (by decide) rfl ?_;refine qC ?_;refine qB ?_;refine qC ?_;refine qC ?_;refine qB ?_;intro l1_5
  try simp only [zds] at l1_5
  refine qK rfl (fun h11=>?_) (fun h11=>?_)
  ·try simp only [decide_eq_true_eq] at h11
   try simp only [zds] at h11
   refine qC ?_;refine qB ?_;refine qM ?_;exact ⟨rfl,⟨rfl,rfl,rfl,rfl,rfl⟩,rfl⟩
  ·try simp only [decide_eq_false_iff_not] at h11
   try simp only [zds] at h11
   exact absurd (by rw [h];rfl) h11
theorem flush_good (p : PSt) {k v : List UInt8} (h0 : p.lns ≠ []) (hu : yL (p.lns.map ls) = ((k,v),0)) (hf : p.full = false) (hb : PB p 1000000) : yD Tryz.prog 119 [.one (.own 0 0)] (psO p) 5 (.one (.lit .nilIface)) (psO { p with flds:=p.flds ++ [(bytes k,bytes v)],lns:=[] }) 5:=by
  have hfl:=hb.flds;refine yB (rs:=[2]) Tryz.func119 rfl rfl rfl teOk (by decide) rfl ?_;refine qC ?_;refine qB ?_;refine qC ?_;refine qC ?_;refine qB ?_;intro l1_5
  try simp only [zds] at l1_5
  refine qK rfl (fun h11=>?_) (fun h11=>?_)
  ·try simp only [decide_eq_true_eq] at h11
   try simp only [zds] at h11
   exact absurd (List.eq_nil_of_length_eq_zero (by omega)) h0
  ·try simp only [decide_eq_false_iff_not] at h11
   try simp only [zds] at h11
   refine qN ?_;refine qC ?_;refine acode_renew 1 rfl ?_;refine qB ?_;refine Or.inl ?_;refine zai (rfl) ?_;refine zei _ (zai (unfold_ok p.lns ⟨hb.lns,Nat.le_trans hb.lnb (by decide)⟩ hu) ?_);refine qC ?_;refine qP ?_;refine qC ?_;refine qB ?_;refine qK rfl (fun h21=>?_) (fun h21=>?_)
   ·try simp only [Bool.not_eq_true'] at h21
    try simp only [zds] at h21
    cases h21
   ·try simp only [Bool.not_eq_false'] at h21
    try simp only [zds] at h21
    refine qC ?_;refine qB ?_;refine qK rfl (fun h31=>?_) (fun h31=>?_)
    ·try simp only [zbq] at h31
     try simp only [zds] at h31
     exact absurd h31 (by rw [hf];decide)
    ·try simp only [zbq] at h31
     try simp only [zds] at h31
     refine qN ?_;refine qC ?_;refine yH rfl ?_;refine qJ 0 rfl rfl rfl (by kernel_rfl) ?_;refine qJ 1 rfl rfl rfl (by kernel_rfl) ?_;refine qJ 2 rfl rfl rfl (by kernel_rfl) ?_;refine qJ 3 rfl rfl rfl (by kernel_rfl) ?_;refine qJ 4 rfl rfl rfl (by kernel_rfl) ?_;refine qE [5,6] (by kernel_rfl) rfl ?_;refine zai ?_ ?_
     ·refine qE [6] (by kernel_rfl) rfl ?_;refine qE [7] (by kernel_rfl) rfl ?_;refine qE [8] (by kernel_rfl) rfl ?_;refine zai (by first|exact qR (by first|omega|(simp only [List.length_cons,List.length_nil];omega)|(simp;omega)) (by decide)|omega|assumption|decide|(simp only [zds];omega)|(simp <;> omega)) ?_;refine qJ 9 rfl rfl rfl (by kernel_rfl) ?_;refine qJ 10 rfl rfl rfl (by kernel_rfl) ?_;refine qE [11] (by kernel_rfl) rfl ?_;refine qJ 12 rfl rfl rfl (by kernel_rfl) ?_;refine qJ 13 rfl rfl rfl (by kernel_rfl) ?_;refine qJ 14 rfl rfl rfl (by kernel_rfl) ?_;refine qE [15] (by kernel_rfl) rfl ?_;refine qO (by kernel_rfl) ?_;refine qC ?_;refine yE 0 0 9 .str rfl rfl rfl ?_;refine acode_swap 1 7 rfl rfl ?_;refine qB ?_;refine qM ?_;exact ⟨rfl,⟨rfl,rfl,rfl,rfl,rfl⟩,rfl⟩
     ·refine qE [5,7] (by kernel_rfl) rfl ?_;refine zai ?_ ?_
      ·refine qE [7] (by kernel_rfl) rfl ?_;refine qE [8] (by kernel_rfl) rfl ?_;refine zai (by first|exact qR (by first|omega|(simp only [List.length_cons,List.length_nil];omega)|(simp;omega)) (by decide)|omega|assumption|decide|(simp only [zds];omega)|(simp <;> omega)) ?_;refine qJ 9 rfl rfl rfl (by kernel_rfl) ?_;refine qJ 10 rfl rfl rfl (by kernel_rfl) ?_;refine qE [11] (by kernel_rfl) rfl ?_;refine qJ 12 rfl rfl rfl (by kernel_rfl) ?_;refine qJ 13 rfl rfl rfl (by kernel_rfl) ?_;refine qJ 14 rfl rfl rfl (by kernel_rfl) ?_;refine qE [15] (by kernel_rfl) rfl ?_;refine qO (by kernel_rfl) ?_;refine qC ?_;refine yE 0 0 9 .str rfl rfl rfl ?_;refine acode_swap 1 7 rfl rfl ?_;refine qB ?_;refine qM ?_;exact ⟨rfl,⟨rfl,rfl,rfl,rfl,rfl⟩,rfl⟩
      ·refine qE [5] (by kernel_rfl) rfl ?_;refine qE [8] (by kernel_rfl) rfl ?_;refine zai (by first|exact qR (by first|omega|(simp only [List.length_cons,List.length_nil];omega)|(simp;omega)) (by decide)|omega|assumption|decide|(simp only [zds];omega)|(simp <;> omega)) ?_;refine qJ 9 rfl rfl rfl (by kernel_rfl) ?_;refine qJ 10 rfl rfl rfl (by kernel_rfl) ?_;refine qE [11] (by kernel_rfl) rfl ?_;refine qJ 12 rfl rfl rfl (by kernel_rfl) ?_;refine qJ 13 rfl rfl rfl (by kernel_rfl) ?_;refine qJ 14 rfl rfl rfl (by kernel_rfl) ?_;refine qE [15] (by kernel_rfl) rfl ?_;refine qO (by kernel_rfl) ?_;refine qC ?_;refine yE 0 0 9 .str rfl rfl rfl ?_;refine acode_swap 1 7 rfl rfl ?_;refine qB ?_;refine qM ?_;exact ⟨rfl,⟨rfl,rfl,rfl,rfl,rfl⟩,rfl⟩
theorem flush_bad (p : PSt) {n : Int} (h0 : p.lns ≠ []) (hu : yL (p.lns.map ls) = (([],[]),n)) (hn : n = 2 ∨ n = 6) (hb : PB p 1000000) : yD Tryz.prog 119 [.one (.own 0 0)] (psO p) 5 (.one (errF p.frm n)) [] 5:=by
  refine yB (rs:=[2]) Tryz.func119 rfl rfl rfl teOk (by decide) rfl ?_;refine qC ?_;refine qB ?_;refine qC ?_;refine qC ?_;refine qB ?_;intro l1_5
  try simp only [zds] at l1_5
  refine qK rfl (fun h11=>?_) (fun h11=>?_)
  ·try simp only [decide_eq_true_eq] at h11
   try simp only [zds] at h11
   exact absurd (List.eq_nil_of_length_eq_zero (by omega)) h0
  ·try simp only [decide_eq_false_iff_not] at h11
   try simp only [zds] at h11
   refine qN ?_;refine qC ?_;refine acode_renew 1 rfl ?_;refine qB ?_;refine Or.inl ?_;refine zai (rfl) ?_;refine zei _ (zai (unfold_bad p.lns ⟨hb.lns,Nat.le_trans hb.lnb (by decide)⟩ hu hn) ?_);refine qC ?_;refine qP ?_;refine qC ?_;refine qB ?_;refine qK rfl (fun h21=>?_) (fun h21=>?_)
   ·skip
    refine qC ?_;refine qB ?_;refine Or.inl ?_;refine zai (rfl) ?_;refine zei _ (zai (fault_c p.frm n) ?_);refine qM ?_;exact ⟨rfl,trivial,rfl⟩
   ·try simp only [zbq] at h21
    try simp only [zds] at h21
    cases h21
theorem flush_full (p : PSt) {k v : List UInt8} (h0 : p.lns ≠ []) (hu : yL (p.lns.map ls) = ((k,v),0)) (hf : p.full = true) (hb : PB p 1000000) : yD Tryz.prog 119 [.one (.own 0 0)] (psO p) 5 (.one (errF p.frm 11)) [] 5:=by
  refine yB (rs:=[2]) Tryz.func119 rfl rfl rfl teOk (by decide) rfl ?_;refine qC ?_;refine qB ?_;refine qC ?_;refine qC ?_;refine qB ?_;intro l1_5
  try simp only [zds] at l1_5
  refine qK rfl (fun h11=>?_) (fun h11=>?_)
  ·try simp only [decide_eq_true_eq] at h11
   try simp only [zds] at h11
   exact absurd (List.eq_nil_of_length_eq_zero (by omega)) h0
  ·try simp only [decide_eq_false_iff_not] at h11
   try simp only [zds] at h11
   refine qN ?_;refine qC ?_;refine acode_renew 1 rfl ?_;refine qB ?_;refine Or.inl ?_;refine zai (rfl) ?_;refine zei _ (zai (unfold_ok p.lns ⟨hb.lns,Nat.le_trans hb.lnb (by decide)⟩ hu) ?_);refine qC ?_;refine qP ?_;refine qC ?_;refine qB ?_;refine qK rfl (fun h21=>?_) (fun h21=>?_)
   ·try simp only [Bool.not_eq_true'] at h21
    try simp only [zds] at h21
    cases h21
   ·try simp only [Bool.not_eq_false'] at h21
    try simp only [zds] at h21
    refine qC ?_;refine qB ?_;refine qK rfl (fun h31=>?_) (fun h31=>?_)
    ·try simp only [zbq] at h31
     try simp only [zds] at h31
     refine qC ?_;refine qB ?_;refine Or.inl ?_;refine zai (rfl) ?_;refine zei _ (zai (fault_c p.frm 11) ?_);refine qM ?_;exact ⟨rfl,trivial,rfl⟩
    ·try simp only [zbq] at h31
     try simp only [zds] at h31
     exact absurd h31 (by rw [hf];decide)
theorem flush_ok {p q : PSt} (h : yV p = .inr q) (hb : PB p 1000000) : yD Tryz.prog 119 [.one (.own 0 0)] (psO p) 5 (.one (.lit .nilIface)) (psO q) 5:=by
  unfold yV at h;split at h
  · rename_i h0;cases h;exact flush_nil p h0
  · rename_i h0;rcases unf_cases (p.lns.map ls) with ⟨n,hn,hu⟩|⟨k,v,hu,_,_⟩
    · rw [hu,if_pos (by rcases hn with rfl|rfl <;> decide)] at h;cases h
    · rw [hu,if_neg (by simp)] at h;split at h
      · cases h
      · rename_i hf;cases h;exact flush_good p h0 hu (by simpa using hf) hb
theorem flush_err {p : PSt} {at_ n : Int} (h : yV p = .inl (at_,n)) (hb : PB p 1000000) : yD Tryz.prog 119 [.one (.own 0 0)] (psO p) 5 (.one (errF at_ n)) [] 5:=by
  unfold yV at h;split at h
  · cases h
  · rename_i h0;rcases unf_cases (p.lns.map ls) with ⟨m,hn,hu⟩|⟨k,v,hu,_,_⟩
    · rw [hu,if_pos (by rcases hn with rfl|rfl <;> decide)] at h;cases h;exact flush_bad p h0 hu hn hb
    · rw [hu,if_neg (by simp)] at h;split at h
      · rename_i hf;cases h;exact flush_full p h0 hu hf hb
      · cases h
end Q
end Ab
end Go.Proofs.YtlbainbjlibfiaaGreatDoor
