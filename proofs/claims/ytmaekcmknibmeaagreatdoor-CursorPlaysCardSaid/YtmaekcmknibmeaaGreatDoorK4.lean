/-
  The texts of this proof, joined: abstract values, the library, the functions of the program and what they compute (part 4). No condition.
-/
import Derived.Test.YtmaekcmknibmeaaGreatDoorRows
import Derived.Lib.Strings
import Derived.Lib.Slices
import Derived.Lib.Walk
import Derived.Lib.Builder
import Derived.Lib.AppendStr
import Derived.Lib.OthersKept
import Derived.WalkKit
import Derived.Laws.Externs
import Derived.Laws.IdiomCopy
import Derived.Lib.UnsafeStr
import Derived.Shelf.RegionOpenPlain
import Derived.Shelf.Strings.Builder1
import Derived.Shelf.Strings.Builder2
import Derived.Shelf.Strings.OnBuilder
import Derived.Shelf.Strings.Trim
import Derived.Shelf.Small.Utf8
import Derived.Shelf.Small.Strs
import Derived.Shelf.Strings.BuilderF
import Derived.Shelf.Strings.BuilderK
import Derived.Shelf.Strings.Builder2Cap
import Derived.Shelf.Strings.Search1
import Derived.Shelf.Strings.Search2
import Derived.Shelf.Strings.Search3
import Derived.Shelf.Strings.Cut
import Derived.Shelf.Strings.Count
import Derived.Shelf.LaysM
import Derived.Shelf.Strings.Shaped
import Derived.Shelf.Strings.Prefix
import Derived.Shelf.Strings.Split
import Derived.Shelf.Strings.SplitShaped
import Derived.Shelf.Strings.Runes
import Derived.Shelf.Strings.AsciiSet
import Derived.Shelf.Unicode.DecodeSlow
import Derived.Shelf.Strings.BuilderCap
import Derived.Test.YtmaekcmknibmeaaGreatDoorProg
import Derived.Lib.SplitLaws
import Derived.Shelf.Strings.SlTrimAscii
import Derived.Lib.Join
import Derived.Lib.SlTrimSet
import Derived.Test.YtmaekcmknibmeaaGreatDoorK1
import Derived.Test.YtmaekcmknibmeaaGreatDoorK2
import Derived.Test.YtmaekcmknibmeaaGreatDoorK3
namespace Go.Proofs.YtmaekcmknibmeaaGreatDoor
open Go.RowKit
namespace Ab
def ty3 : TyI:=⟨.int .i64,1,8,[.int .i64 0],some ⟨_,(.int .i64)⟩,true⟩
theorem tyOk3 : TyOk Tryz.prog 3 ty3:=yH (by kernel_rfl) Tryz.underlying3 rfl (by decide) rfl (fun _ _ h=>by cases h;rfl) (fun _=>by kernel_rfl)
def ty9 : TyI:=⟨.str,1,16,[.string ⟨#[]⟩],some ⟨_,.str⟩,true⟩
theorem tyOk9 : TyOk Tryz.prog 9 ty9:=yH (by kernel_rfl) Tryz.underlying9 rfl (by decide) rfl (fun _ _ h=>by cases h;rfl) (fun _=>by kernel_rfl)
def ty33 : TyI:=⟨.struct [(0,31),(1,3)],2,32,[.slice none 0 0,.int .i64 0],some ⟨_,(.st (.sl (.st (.st (.int .i64) (.st .str (.sl (.st .str .str)))) (.int .i64))) (.int .i64))⟩,false⟩
theorem tyOk33 : TyOk Tryz.prog 33 ty33:=yH (by kernel_rfl) ⟨by kernel_rfl,by kernel_rfl,by kernel_rfl,by kernel_rfl,by kernel_rfl⟩ rfl (by decide) rfl (fun _ _ h=>by cases h;rfl) (fun h=>by cases h)
def ty41 : TyI:=⟨.slice 54,1,24,[.slice none 0 0],some ⟨_,(.sl (.st (.int .i64) (.sl (.st .str .str))))⟩,false⟩
theorem tyOk41 : TyOk Tryz.prog 41 ty41:=yH (by kernel_rfl) Tryz.underlying41 rfl (by decide) rfl (fun _ _ h=>by cases h;rfl) (fun h=>by cases h)
def ty48 : TyI:=⟨.slice 114,1,24,[.slice none 0 0],some ⟨_,(.sl (.st .str .str))⟩,false⟩
theorem tyOk48 : TyOk Tryz.prog 48 ty48:=yH (by kernel_rfl) Tryz.underlying48 rfl (by decide) rfl (fun _ _ h=>by cases h;rfl) (fun h=>by cases h)
def ty117 : TyI:=⟨.slice 9,1,24,[.slice none 0 0],some ⟨_,(.sl .str)⟩,false⟩
theorem tyOk117 : TyOk Tryz.prog 117 ty117:=yH (by kernel_rfl) Tryz.underlying117 rfl (by decide) rfl (fun _ _ h=>by cases h;rfl) (fun h=>by cases h)
def ty5 : TyI:=⟨.int .u8,1,1,[.int .u8 0],some ⟨_,(.int .u8)⟩,true⟩
theorem tyOk5 : TyOk Tryz.prog 5 ty5:=yH (by kernel_rfl) Tryz.underlying5 rfl (by decide) rfl (fun _ _ h=>by cases h;rfl) (fun _=>by kernel_rfl)
def ty114 : TyI:=⟨.struct [(0,9),(1,9)],2,32,[.string ⟨#[]⟩,.string ⟨#[]⟩],some ⟨_,(.st .str .str)⟩,true⟩
theorem tyOk114 : TyOk Tryz.prog 114 ty114:=yH (by kernel_rfl) ⟨by kernel_rfl,by kernel_rfl,by kernel_rfl,by kernel_rfl,by kernel_rfl⟩ rfl (by decide) rfl (fun _ _ h=>by cases h;rfl) (fun _=>by kernel_rfl)
def ty81 : TyI:=⟨.slice 87,1,24,[.slice none 0 0],some ⟨_,(.sl (.st (.st (.int .i64) (.st .str (.sl (.st .str .str)))) (.int .i64)))⟩,false⟩
theorem tyOk81 : TyOk Tryz.prog 81 ty81:=yH (by kernel_rfl) Tryz.underlying81 rfl (by decide) rfl (fun _ _ h=>by cases h;rfl) (fun h=>by cases h)
def ty43 : TyI:=⟨.struct [(0,22),(1,41),(2,3)],3,56,[.slice none 0 0,.slice none 0 0,.int .i64 0],some ⟨_,(.st (.sl (.sl (.st .bool (.st .str (.st (.int .i64) .str))))) (.st (.sl (.st (.int .i64) (.sl (.st .str .str)))) (.int .i64)))⟩,false⟩
theorem tyOk43 : TyOk Tryz.prog 43 ty43:=yH (by kernel_rfl) ⟨by kernel_rfl,by kernel_rfl,by kernel_rfl,by kernel_rfl,by kernel_rfl⟩ rfl (by decide) rfl (fun _ _ h=>by cases h;rfl) (fun h=>by cases h)
def ty54 : TyI:=⟨.struct [(0,3),(1,48)],2,32,[.int .i64 0,.slice none 0 0],some ⟨_,(.st (.int .i64) (.sl (.st .str .str)))⟩,false⟩
theorem tyOk54 : TyOk Tryz.prog 54 ty54:=yH (by kernel_rfl) ⟨by kernel_rfl,by kernel_rfl,by kernel_rfl,by kernel_rfl,by kernel_rfl⟩ rfl (by decide) rfl (fun _ _ h=>by cases h;rfl) (fun h=>by cases h)
def ty31 : TyI:=⟨.slice 91,1,24,[.slice none 0 0],some ⟨_,(.sl (.st (.st (.int .i64) (.st .str (.sl (.st .str .str)))) (.int .i64)))⟩,false⟩
theorem tyOk31 : TyOk Tryz.prog 31 ty31:=yH (by kernel_rfl) Tryz.underlying31 rfl (by decide) rfl (fun _ _ h=>by cases h;rfl) (fun h=>by cases h)
def ty21 : TyI:=⟨.int .i32,1,4,[.int .i32 0],some ⟨_,(.int .i32)⟩,true⟩
theorem tyOk21 : TyOk Tryz.prog 21 ty21:=yH (by kernel_rfl) Tryz.underlying21 rfl (by decide) rfl (fun _ _ h=>by cases h;rfl) (fun _=>by kernel_rfl)
def ty85 : TyI:=⟨.struct [(0,3),(1,9),(2,48)],3,48,[.int .i64 0,.string ⟨#[]⟩,.slice none 0 0],some ⟨_,(.st (.int .i64) (.st .str (.sl (.st .str .str))))⟩,false⟩
theorem tyOk85 : TyOk Tryz.prog 85 ty85:=yH (by kernel_rfl) ⟨by kernel_rfl,by kernel_rfl,by kernel_rfl,by kernel_rfl,by kernel_rfl⟩ rfl (by decide) rfl (fun _ _ h=>by cases h;rfl) (fun h=>by cases h)
def ty4 : TyI:=⟨.bool,1,1,[.bool false],some ⟨_,.bool⟩,true⟩
theorem tyOk4 : TyOk Tryz.prog 4 ty4:=yH (by kernel_rfl) Tryz.underlying4 rfl (by decide) rfl (fun _ _ h=>by cases h;rfl) (fun _=>by kernel_rfl)
def ty39 : TyI:=⟨.ptr 95,1,8,[.pointer none],none,false⟩
theorem tyOk39 : TyOk Tryz.prog 39 ty39:=yH (by kernel_rfl) Tryz.underlying39 rfl (by decide) rfl (fun _ _ h=>by cases h) (fun h=>by cases h)
def ty121 : TyI:=⟨.struct [(0,119),(3,78),(4,117),(5,48),(6,3)],7,120,[.slice none 0 0,.int .i64 0,.bool false,.slice none 0 0,.slice none 0 0,.slice none 0 0,.int .i64 0],some ⟨_,(.st (.st (.sl .str) (.st (.int .i64) .bool)) (.st (.sl (.st (.int .i64) (.st .str (.sl (.st .str .str))))) (.st (.sl .str) (.st (.sl (.st .str .str)) (.int .i64)))))⟩,false⟩
theorem tyOk121 : TyOk Tryz.prog 121 ty121:=yH (by kernel_rfl) ⟨by kernel_rfl,by kernel_rfl,by kernel_rfl,by kernel_rfl,by kernel_rfl⟩ rfl (by decide) rfl (fun _ _ h=>by cases h;rfl) (fun h=>by cases h)
def ty126 : TyI:=⟨.struct [(0,3),(1,3),(2,9),(3,4)],4,40,[.int .i64 0,.int .i64 0,.string ⟨#[]⟩,.bool false],some ⟨_,(.st (.int .i64) (.st (.int .i64) (.st .str .bool)))⟩,true⟩
theorem tyOk126 : TyOk Tryz.prog 126 ty126:=yH (by kernel_rfl) ⟨by kernel_rfl,by kernel_rfl,by kernel_rfl,by kernel_rfl,by kernel_rfl⟩ rfl (by decide) rfl (fun _ _ h=>by cases h;rfl) (fun _=>by kernel_rfl)
def ty78 : TyI:=⟨.slice 85,1,24,[.slice none 0 0],some ⟨_,(.sl (.st (.int .i64) (.st .str (.sl (.st .str .str)))))⟩,false⟩
theorem tyOk78 : TyOk Tryz.prog 78 ty78:=yH (by kernel_rfl) Tryz.underlying78 rfl (by decide) rfl (fun _ _ h=>by cases h;rfl) (fun h=>by cases h)
def ty28 : TyI:=⟨.iface,1,16,[.nilIface],some ⟨_,.raw⟩,false⟩
theorem tyOk28 : TyOk Tryz.prog 28 ty28:=yH (by kernel_rfl) ⟨_,Tryz.underlying28⟩ rfl (by decide) rfl (fun _ _ h=>by cases h;rfl) (fun h=>by cases h)
def ty37 : TyI:=⟨.slice 45,1,24,[.slice none 0 0],some ⟨_,(.sl (.sl (.st .bool (.st .str (.st (.int .i64) .str)))))⟩,false⟩
theorem tyOk37 : TyOk Tryz.prog 37 ty37:=yH (by kernel_rfl) Tryz.underlying37 rfl (by decide) rfl (fun _ _ h=>by cases h;rfl) (fun h=>by cases h)
def ty75 : TyI:=⟨.struct [(0,4),(1,9),(2,3),(3,9)],4,48,[.bool false,.string ⟨#[]⟩,.int .i64 0,.string ⟨#[]⟩],some ⟨_,(.st .bool (.st .str (.st (.int .i64) .str)))⟩,true⟩
theorem tyOk75 : TyOk Tryz.prog 75 ty75:=yH (by kernel_rfl) ⟨by kernel_rfl,by kernel_rfl,by kernel_rfl,by kernel_rfl,by kernel_rfl⟩ rfl (by decide) rfl (fun _ _ h=>by cases h;rfl) (fun _=>by kernel_rfl)
def ty87 : TyI:=⟨.struct [(0,85),(3,3)],4,56,[.int .i64 0,.string ⟨#[]⟩,.slice none 0 0,.int .i64 0],some ⟨_,(.st (.st (.int .i64) (.st .str (.sl (.st .str .str)))) (.int .i64))⟩,false⟩
theorem tyOk87 : TyOk Tryz.prog 87 ty87:=yH (by kernel_rfl) ⟨by kernel_rfl,by kernel_rfl,by kernel_rfl,by kernel_rfl,by kernel_rfl⟩ rfl (by decide) rfl (fun _ _ h=>by cases h;rfl) (fun h=>by cases h)
def ty52 : TyI:=⟨.struct [(0,3),(1,3),(2,50)],5,56,[.int .i64 0,.int .i64 0,.int .i64 0,.int .i64 0,.slice none 0 0],some ⟨_,(.st (.int .i64) (.st (.int .i64) (.st (.int .i64) (.st (.int .i64) (.sl (.st .str .str))))))⟩,false⟩
theorem tyOk52 : TyOk Tryz.prog 52 ty52:=yH (by kernel_rfl) ⟨by kernel_rfl,by kernel_rfl,by kernel_rfl,by kernel_rfl,by kernel_rfl⟩ rfl (by decide) rfl (fun _ _ h=>by cases h;rfl) (fun h=>by cases h)
def ty83 : TyI:=⟨.struct [(0,81),(1,3),(2,3)],3,40,[.slice none 0 0,.int .i64 0,.int .i64 0],some ⟨_,(.st (.sl (.st (.st (.int .i64) (.st .str (.sl (.st .str .str)))) (.int .i64))) (.st (.int .i64) (.int .i64)))⟩,false⟩
theorem tyOk83 : TyOk Tryz.prog 83 ty83:=yH (by kernel_rfl) ⟨by kernel_rfl,by kernel_rfl,by kernel_rfl,by kernel_rfl,by kernel_rfl⟩ rfl (by decide) rfl (fun _ _ h=>by cases h;rfl) (fun h=>by cases h)
def ty26 : TyI:=⟨.ptr 83,1,8,[.pointer none],none,false⟩
theorem tyOk26 : TyOk Tryz.prog 26 ty26:=yH (by kernel_rfl) Tryz.underlying26 rfl (by decide) rfl (fun _ _ h=>by cases h) (fun h=>by cases h)
def ty91 : TyI:=⟨.struct [(0,85),(3,3)],4,56,[.int .i64 0,.string ⟨#[]⟩,.slice none 0 0,.int .i64 0],some ⟨_,(.st (.st (.int .i64) (.st .str (.sl (.st .str .str)))) (.int .i64))⟩,false⟩
theorem tyOk91 : TyOk Tryz.prog 91 ty91:=yH (by kernel_rfl) ⟨by kernel_rfl,by kernel_rfl,by kernel_rfl,by kernel_rfl,by kernel_rfl⟩ rfl (by decide) rfl (fun _ _ h=>by cases h;rfl) (fun h=>by cases h)
def ty95 : TyI:=⟨.struct [(0,37),(1,41),(2,3)],3,56,[.slice none 0 0,.slice none 0 0,.int .i64 0],some ⟨_,(.st (.sl (.sl (.st .bool (.st .str (.st (.int .i64) .str))))) (.st (.sl (.st (.int .i64) (.sl (.st .str .str)))) (.int .i64)))⟩,false⟩
theorem tyOk95 : TyOk Tryz.prog 95 ty95:=yH (by kernel_rfl) ⟨by kernel_rfl,by kernel_rfl,by kernel_rfl,by kernel_rfl,by kernel_rfl⟩ rfl (by decide) rfl (fun _ _ h=>by cases h;rfl) (fun h=>by cases h)
def ty191 : TyI:=⟨.struct [(0,188),(1,189)],2,32,[.pointer none,.slice none 0 0],none,false⟩
theorem tyOk191 : TyOk Tryz.prog 191 ty191:=yH (by kernel_rfl) ⟨by kernel_rfl,by kernel_rfl,by kernel_rfl,by kernel_rfl,by kernel_rfl⟩ rfl (by decide) rfl (fun _ _ h=>by cases h) (fun h=>by cases h)
def ty50 : TyI:=⟨.struct [(0,3),(1,3),(2,48)],3,40,[.int .i64 0,.int .i64 0,.slice none 0 0],some ⟨_,(.st (.int .i64) (.st (.int .i64) (.sl (.st .str .str))))⟩,false⟩
theorem tyOk50 : TyOk Tryz.prog 50 ty50:=yH (by kernel_rfl) ⟨by kernel_rfl,by kernel_rfl,by kernel_rfl,by kernel_rfl,by kernel_rfl⟩ rfl (by decide) rfl (fun _ _ h=>by cases h;rfl) (fun h=>by cases h)
def ty47 : TyI:=⟨.struct [(0,4),(1,9),(2,3),(3,9)],4,48,[.bool false,.string ⟨#[]⟩,.int .i64 0,.string ⟨#[]⟩],some ⟨_,(.st .bool (.st .str (.st (.int .i64) .str)))⟩,true⟩
theorem tyOk47 : TyOk Tryz.prog 47 ty47:=yH (by kernel_rfl) ⟨by kernel_rfl,by kernel_rfl,by kernel_rfl,by kernel_rfl,by kernel_rfl⟩ rfl (by decide) rfl (fun _ _ h=>by cases h;rfl) (fun _=>by kernel_rfl)
def ty129 : TyI:=⟨.slice 133,1,24,[.slice none 0 0],some ⟨_,(.sl (.st (.int .i64) (.st (.int .i64) (.st .str .bool))))⟩,false⟩
theorem tyOk129 : TyOk Tryz.prog 129 ty129:=yH (by kernel_rfl) Tryz.underlying129 rfl (by decide) rfl (fun _ _ h=>by cases h;rfl) (fun h=>by cases h)
def ty189 : TyI:=⟨.slice 5,1,24,[.slice none 0 0],some ⟨_,(.sl (.int .u8))⟩,false⟩
theorem tyOk189 : TyOk Tryz.prog 189 ty189:=yH (by kernel_rfl) Tryz.underlying189 rfl (by decide) rfl (fun _ _ h=>by cases h;rfl) (fun h=>by cases h)
def ty45 : TyI:=⟨.slice 47,1,24,[.slice none 0 0],some ⟨_,(.sl (.st .bool (.st .str (.st (.int .i64) .str))))⟩,false⟩
theorem tyOk45 : TyOk Tryz.prog 45 ty45:=yH (by kernel_rfl) Tryz.underlying45 rfl (by decide) rfl (fun _ _ h=>by cases h;rfl) (fun h=>by cases h)
def ty227 : TyI:=⟨.int .u32,1,4,[.int .u32 0],some ⟨_,(.int .u32)⟩,true⟩
theorem tyOk227 : TyOk Tryz.prog 227 ty227:=yH (by kernel_rfl) Tryz.underlying227 rfl (by decide) rfl (fun _ _ h=>by cases h;rfl) (fun _=>by kernel_rfl)
def ty22 : TyI:=⟨.slice 74,1,24,[.slice none 0 0],some ⟨_,(.sl (.sl (.st .bool (.st .str (.st (.int .i64) .str)))))⟩,false⟩
theorem tyOk22 : TyOk Tryz.prog 22 ty22:=yH (by kernel_rfl) Tryz.underlying22 rfl (by decide) rfl (fun _ _ h=>by cases h;rfl) (fun h=>by cases h)
def ty107 : TyI:=⟨.int .i64,1,8,[.int .i64 0],some ⟨_,(.int .i64)⟩,true⟩
theorem tyOk107 : TyOk Tryz.prog 107 ty107:=yH (by kernel_rfl) Tryz.underlying107 rfl (by decide) rfl (fun _ _ h=>by cases h;rfl) (fun _=>by kernel_rfl)
def ty131 : TyI:=⟨.slice 3,1,24,[.slice none 0 0],some ⟨_,(.sl (.int .i64))⟩,false⟩
theorem tyOk131 : TyOk Tryz.prog 131 ty131:=yH (by kernel_rfl) Tryz.underlying131 rfl (by decide) rfl (fun _ _ h=>by cases h;rfl) (fun h=>by cases h)
def ty116 : TyI:=⟨.ptr 121,1,8,[.pointer none],none,false⟩
theorem tyOk116 : TyOk Tryz.prog 116 ty116:=yH (by kernel_rfl) Tryz.underlying116 rfl (by decide) rfl (fun _ _ h=>by cases h) (fun h=>by cases h)
def ty74 : TyI:=⟨.slice 75,1,24,[.slice none 0 0],some ⟨_,(.sl (.st .bool (.st .str (.st (.int .i64) .str))))⟩,false⟩
theorem tyOk74 : TyOk Tryz.prog 74 ty74:=yH (by kernel_rfl) Tryz.underlying74 rfl (by decide) rfl (fun _ _ h=>by cases h;rfl) (fun h=>by cases h)
def ty119 : TyI:=⟨.struct [(0,117),(1,3),(2,4)],3,40,[.slice none 0 0,.int .i64 0,.bool false],some ⟨_,(.st (.sl .str) (.st (.int .i64) .bool))⟩,false⟩
theorem tyOk119 : TyOk Tryz.prog 119 ty119:=yH (by kernel_rfl) ⟨by kernel_rfl,by kernel_rfl,by kernel_rfl,by kernel_rfl,by kernel_rfl⟩ rfl (by decide) rfl (fun _ _ h=>by cases h;rfl) (fun h=>by cases h)
def ty188 : TyI:=⟨.ptr 191,1,8,[.pointer none],none,false⟩
theorem tyOk188 : TyOk Tryz.prog 188 ty188:=yH (by kernel_rfl) Tryz.underlying188 rfl (by decide) rfl (fun _ _ h=>by cases h) (fun h=>by cases h)
def ty234 : TyI:=⟨.struct [(0,5),(1,5)],2,2,[.int .u8 0,.int .u8 0],some ⟨_,(.st (.int .u8) (.int .u8))⟩,true⟩
theorem tyOk234 : TyOk Tryz.prog 234 ty234:=yH (by kernel_rfl) ⟨by kernel_rfl,by kernel_rfl,by kernel_rfl,by kernel_rfl,by kernel_rfl⟩ rfl (by decide) rfl (fun _ _ h=>by cases h;rfl) (fun _=>by kernel_rfl)
def ty133 : TyI:=⟨.struct [(0,3),(1,3),(2,9),(3,4)],4,40,[.int .i64 0,.int .i64 0,.string ⟨#[]⟩,.bool false],some ⟨_,(.st (.int .i64) (.st (.int .i64) (.st .str .bool)))⟩,true⟩
theorem tyOk133 : TyOk Tryz.prog 133 ty133:=yH (by kernel_rfl) ⟨by kernel_rfl,by kernel_rfl,by kernel_rfl,by kernel_rfl,by kernel_rfl⟩ rfl (by decide) rfl (fun _ _ h=>by cases h;rfl) (fun _=>by kernel_rfl)
def ty23 : TyI:=⟨.slice 52,1,24,[.slice none 0 0],some ⟨_,(.sl (.st (.int .i64) (.st (.int .i64) (.st (.int .i64) (.st (.int .i64) (.sl (.st .str .str)))))))⟩,false⟩
theorem tyOk23 : TyOk Tryz.prog 23 ty23:=yH (by kernel_rfl) Tryz.underlying23 rfl (by decide) rfl (fun _ _ h=>by cases h;rfl) (fun h=>by cases h)
def ty172 : TyI:=⟨.other,1,8,[.nilFunc],none,false⟩
theorem tyOk172 : TyOk Tryz.prog 172 ty172:=yH (by kernel_rfl) ⟨_,Tryz.underlying172,trivial⟩ rfl (by decide) rfl (fun _ _ h=>by cases h) (fun h=>by cases h)
def ty77 : TyI:=⟨.slice 50,1,24,[.slice none 0 0],some ⟨_,(.sl (.st (.int .i64) (.st (.int .i64) (.sl (.st .str .str)))))⟩,false⟩
theorem tyOk77 : TyOk Tryz.prog 77 ty77:=yH (by kernel_rfl) Tryz.underlying77 rfl (by decide) rfl (fun _ _ h=>by cases h;rfl) (fun h=>by cases h)
def ty185 : TyI:=⟨.struct [(0,3),(1,28)],2,24,[.int .i64 0,.nilIface],some ⟨_,(.st (.int .i64) .raw)⟩,false⟩
theorem tyOk185 : TyOk Tryz.prog 185 ty185:=yH (by kernel_rfl) ⟨by kernel_rfl,by kernel_rfl,by kernel_rfl,by kernel_rfl,by kernel_rfl⟩ rfl (by decide) rfl (fun _ _ h=>by cases h;rfl) (fun h=>by cases h)
def ty212 : TyI:=⟨.ptr 208,1,8,[.pointer none],none,false⟩
theorem tyOk212 : TyOk Tryz.prog 212 ty212:=yH (by kernel_rfl) Tryz.underlying212 rfl (by decide) rfl (fun _ _ h=>by cases h) (fun h=>by cases h)
def ty142 : TyI:=⟨.other,1,8,[.nilFunc],none,false⟩
theorem tyOk142 : TyOk Tryz.prog 142 ty142:=yH (by kernel_rfl) ⟨_,Tryz.underlying142,trivial⟩ rfl (by decide) rfl (fun _ _ h=>by cases h) (fun h=>by cases h)
def ty175 : TyI:=⟨.other,1,8,[.nilFunc],none,false⟩
theorem tyOk175 : TyOk Tryz.prog 175 ty175:=yH (by kernel_rfl) ⟨_,Tryz.underlying175,trivial⟩ rfl (by decide) rfl (fun _ _ h=>by cases h) (fun h=>by cases h)
def ty183 : TyI:=⟨.ptr 185,1,8,[.pointer none],none,false⟩
theorem tyOk183 : TyOk Tryz.prog 183 ty183:=yH (by kernel_rfl) Tryz.underlying183 rfl (by decide) rfl (fun _ _ h=>by cases h) (fun h=>by cases h)
def ty196 : TyI:=⟨.other,1,8,[.nilFunc],none,false⟩
theorem tyOk196 : TyOk Tryz.prog 196 ty196:=yH (by kernel_rfl) ⟨_,Tryz.underlying196,trivial⟩ rfl (by decide) rfl (fun _ _ h=>by cases h) (fun h=>by cases h)
def ty154 : TyI:=⟨.other,1,8,[.nilFunc],none,false⟩
theorem tyOk154 : TyOk Tryz.prog 154 ty154:=yH (by kernel_rfl) ⟨_,Tryz.underlying154,trivial⟩ rfl (by decide) rfl (fun _ _ h=>by cases h) (fun h=>by cases h)
def ty213 : TyI:=⟨.ptr 5,1,8,[.pointer none],none,false⟩
theorem tyOk213 : TyOk Tryz.prog 213 ty213:=yH (by kernel_rfl) Tryz.underlying213 rfl (by decide) rfl (fun _ _ h=>by cases h) (fun h=>by cases h)
def te : List (TypeId × TyI):=[(3,ty3),(9,ty9),(33,ty33),(41,ty41),(48,ty48),(117,ty117),(5,ty5),(114,ty114),(81,ty81),(43,ty43),(54,ty54),(31,ty31),(21,ty21),(85,ty85),(4,ty4),(39,ty39),(121,ty121),(126,ty126),(78,ty78),(28,ty28),(37,ty37),(75,ty75),(87,ty87),(52,ty52),(83,ty83),(26,ty26),(91,ty91),(95,ty95),(191,ty191),(50,ty50),(47,ty47),(129,ty129),(189,ty189),(45,ty45),(227,ty227),(22,ty22),(107,ty107),(131,ty131),(116,ty116),(74,ty74),(119,ty119),(188,ty188),(234,ty234),(133,ty133),(23,ty23),(172,ty172),(77,ty77),(185,ty185),(212,ty212),(142,ty142),(175,ty175),(183,ty183),(196,ty196),(154,ty154),(213,ty213)]
theorem teOk : TEok Tryz.prog te:=by
  intro p hp;simp only [te,List.mem_cons,List.not_mem_nil,or_false] at hp;rcases hp with rfl|rfl|rfl|rfl|rfl|rfl|rfl|rfl|rfl|rfl|rfl|rfl|rfl|rfl|rfl|rfl|rfl|rfl|rfl|rfl|rfl|rfl|rfl|rfl|rfl|rfl|rfl|rfl|rfl|rfl|rfl|rfl|rfl|rfl|rfl|rfl|rfl|rfl|rfl|rfl|rfl|rfl|rfl|rfl|rfl|rfl|rfl|rfl|rfl|rfl|rfl|rfl|rfl|rfl|rfl
  · exact tyOk3
  · exact tyOk9
  · exact tyOk33
  · exact tyOk41
  · exact tyOk48
  · exact tyOk117
  · exact tyOk5
  · exact tyOk114
  · exact tyOk81
  · exact tyOk43
  · exact tyOk54
  · exact tyOk31
  · exact tyOk21
  · exact tyOk85
  · exact tyOk4
  · exact tyOk39
  · exact tyOk121
  · exact tyOk126
  · exact tyOk78
  · exact tyOk28
  · exact tyOk37
  · exact tyOk75
  · exact tyOk87
  · exact tyOk52
  · exact tyOk83
  · exact tyOk26
  · exact tyOk91
  · exact tyOk95
  · exact tyOk191
  · exact tyOk50
  · exact tyOk47
  · exact tyOk129
  · exact tyOk189
  · exact tyOk45
  · exact tyOk227
  · exact tyOk22
  · exact tyOk107
  · exact tyOk131
  · exact tyOk116
  · exact tyOk74
  · exact tyOk119
  · exact tyOk188
  · exact tyOk234
  · exact tyOk133
  · exact tyOk23
  · exact tyOk172
  · exact tyOk77
  · exact tyOk185
  · exact tyOk212
  · exact tyOk142
  · exact tyOk175
  · exact tyOk183
  · exact tyOk196
  · exact tyOk154
  · exact tyOk213
end Ab
end Go.Proofs.YtmaekcmknibmeaaGreatDoor
namespace Go.Proofs.YtmaekcmknibmeaaGreatDoor
open Go.RowKit
namespace Bld
set_option maxRecDepth 100000
set_option maxHeartbeats 1000000
theorem sizeBuilder : (Tryz.prog.info? 191).map (·.size) = some 2:=by kernel_rfl
theorem liesBuilder : liesAt Tryz.prog Tryz.prog.depth 191 (2 / Tryz.prog.cellsOf 191) 0 191 1 = true:=by kernel_rfl
theorem copyCheck_used (b : Nat) (w : World) (h0 : w.cell? ⟨b,0,none⟩ = some (.pointer (some ⟨b,0,none⟩))) :
    Calls Tryz.prog 133 #[.pointer (some ⟨b,0,none⟩)] w fun e w'=>e = .returned (.tuple #[]) ∧ w' = w:=by
  obtain ⟨j,hj,_⟩:=Option.map_eq_some_iff.1 sizeBuilder
  go_enter Tryz.func133,Tryz.ntmps133
  go_wp2
  rw [Lib.run_neq_ptr_same w _ Tryz.underlying188 hj]
  go_wp2
  go_end0
  exact ⟨rfl,rfl⟩
theorem copyCheck_fresh (b : Nat) (w : World) (h0 : w.cell? ⟨b,0,none⟩ = some (.pointer none)) (hsh : w.shape? b = some (191,2)) (hfz : w.frozen? ⟨b,0,none⟩ = false) :
    Calls Tryz.prog 133 #[.pointer (some ⟨b,0,none⟩)] w fun e w'=>e = .returned (.tuple #[]) ∧ w' = w.setCell ⟨b,0,none⟩ (.pointer (some ⟨b,0,none⟩)):=by
  obtain ⟨j,hj,hjs⟩:=Option.map_eq_some_iff.1 sizeBuilder
  go_enter Tryz.func133,Tryz.ntmps133
  go_wp2
  rw [Lib.run_to_unsafe w ⟨b,0,none⟩ Tryz.underlying188 Tryz.underlying223 hj (by rw [hjs];decide) hsh (Nat.zero_lt_succ 1)];simp only [Result.andThen];rw [Oper.upon_value]
  go_wp2
  rw [run_callFunc_extern Tryz.func148 (by kernel_rfl) (by kernel_rfl) (by kernel_rfl) (e:=Extern.AbiNoEscape.same) (by kernel_rfl)];rw [Lib.run_noEscape];simp only [Result.andThen];rw [Oper.upon_value]
  go_wp2
  rw [Lib.run_from_unsafe w ⟨b,0,none⟩ Tryz.underlying223 Tryz.underlying188 hj hsh liesBuilder];simp only [Result.andThen];rw [Oper.upon_value]
  go_wp2
  go_end0
  exact ⟨rfl,rfl⟩
end Bld
end Go.Proofs.YtmaekcmknibmeaaGreatDoor
namespace Go.Proofs.YtmaekcmknibmeaaGreatDoor
open Go.RowKit
namespace Ab
abbrev bldO (u : Bool) (xs : List Int) : Obs:=[(0,.box 191 [.nself u 0,.vec 1]),(1,.vec 5 (.int .u8) xs)]
theorem eI {w : World} {b i : Nat} {v : Value} : Grew w (w.setCell ⟨b,i,none⟩ v) (some b) :=
  ⟨rfl,rfl,rfl,by simp [World.setCell],fun k _ hk=>by
    simp only [World.setCell,Array.getElem?_modify];rw [if_neg (fun e=>hk (by rw [e]))]⟩
theorem setCell_heap {w : World} {b i : Nat} {v : Value} {cs : Array Value} {T : TypeId} {fr : Nat × Nat} (h : w.heap[b]? = some (.cells cs T fr)) : (w.setCell ⟨b,i,none⟩ v).heap[b]? = some (.cells (cs.setIfInBounds i v) T fr):=by
  simp [World.setCell,Array.getElem?_modify,h]
theorem copyCheck_o (u : Bool) (xs : List Int) : yB Tryz.prog 133 [.one (.own 0 0)] (bldO u xs) 2 (.tup []) (bldO true xs) 2:=by
  refine ⟨⟨_,Tryz.func133,rfl,rfl⟩,fun cx ρ w vs hN hnx hw hs hvs=>?_⟩;obtain ⟨b,cs,hρ,hh,hcs⟩:=hs.obs (0,.box 191 [.nself u 0,.vec 1]) (by simp);obtain ⟨p,r,rfl,hp,v,r2,rfl,hv,hr⟩:=hcs;rw [show r2 = [] from hr] at hh;obtain ⟨q,r3,rfl,⟨b',hb1,hb2⟩,hr3⟩:=hvs;rw [hρ] at hb1;simp only [Option.some.injEq,Value.pointer.injEq,Addr.mk.injEq,and_true] at hb1;subst hb1;rw [show r3 = [] from hr3,hb2];have hh : w.heap[b]? = some (.cells #[p,v] 191 (0,0)):=hh;cases u with
  | true =>
    obtain ⟨b2,hb3,hb4⟩:=hp.1 rfl;rw [hρ] at hb3;simp only [Option.some.injEq,Value.pointer.injEq,Addr.mk.injEq,and_true] at hb3;subst hb3;refine (Bld.copyCheck_used b w (by simp [World.cell?,hh,hb4])).mono ?_
    rintro e w' ⟨rfl,rfl⟩
    exact ⟨_,ρ,rfl,hs,[],rfl,rfl⟩
  | false =>
    have hp : p = .pointer none:=hp.2 rfl;refine (Bld.copyCheck_fresh b w (by simp [World.cell?,hh,hp]) (by simp [World.shape?,hh]) (Lib.frozen_of_heap hh 0)).mono ?_
    rintro e w' ⟨rfl,rfl⟩
    refine ⟨_,ρ,rfl,?_,[],rfl,rfl⟩;have hg : getO (bldO false xs) 0 = some (.box 191 [.nself false 0,.vec 1]):=rfl;have hk : xI (okOf cx ρ (bldO false xs)) (okOf cx ρ (bldO false xs)) w (w.setCell ⟨b,0,none⟩ (.pointer (some ⟨b,0,none⟩))) :=
      fun _ k hk hlt=>⟨hk,eI.block k hlt (fun e=>hk.2 _ (yF hg) (by rw [hρ];exact e.symm))⟩
    have:=hs.write (o':=.box 191 [.nself true 0,.vec 1]) hg (w':=w.setCell ⟨b,0,none⟩ (.pointer (some ⟨b,0,none⟩))) (by rw [hρ];exact eI) (by simp [World.setCell]) ⟨b,[.pointer (some ⟨b,0,none⟩),v],hρ,setCell_heap hh,_,_,rfl,⟨fun _=>⟨b,hρ,rfl⟩,fun e=>by (cases e)⟩,_,_,rfl,C.kept (c:=.vec 1) hk hv,rfl⟩;exact this
set_option maxRecDepth 10000
theorem writeString_o (u : Bool) (xs : List Int) (t : ByteArray) (hl : xs.length + t.size ≤ 140737488355328) : yB Tryz.prog 107 [.one (.own 0 0),is t] (bldO u xs) 2
    (.tup [(false,[.lit (.int .i64 t.size)]),(false,[.lit .nilIface])]) (bldO true (xs ++ xX t)) 2:=by
  refine yA (rs:=[4,5]) Tryz.func107 rfl rfl rfl teOk (by decide) rfl ?_;refine qI (qH ?_);refine qI (qH ?_);refine Or.inr (Or.inl (zei [] (zei [0,1] (zei _ (zei _ (zei _ (zei _ (zei _ (zai (copyCheck_o u xs) (zai rfl (zai (zai (zai rfl rfl) (zai (zai rfl rfl) True.intro)) (zai rfl ?_))))))))))));refine qI (qH ?_);refine zai hl ?_;refine qI (qH ?_);refine qM ?_;exact ⟨rfl,⟨rfl,rfl⟩,rfl⟩
theorem grew_freeze {w w' : World} {g n : Nat} (h : Grew w w' (some g)) : Grew w (w'.freeze ⟨g,0,none⟩ n) (some g):=by
  unfold World.freeze;split
  · exact h
  · exact ⟨h.os,h.tape,h.output,by simpa using h.size,fun k hk hg=>by
      simp only [Array.getElem?_modify];rw [if_neg (fun e=>hg (by rw [e]))];exact h.block k hk hg⟩
theorem hT {w : World} {r : Option Nat} : Grew w w.drew r:=⟨rfl,rfl,rfl,Nat.le_refl _,fun _ _ _=>rfl⟩
theorem grew_alloc {w : World} {o : Obj} {r : Option Nat} : Grew w (w.drew.alloc o) r:=⟨rfl,rfl,rfl,by simp,fun k hk _=>Lib.alloc_old w.drew _ k hk⟩
set_option maxRecDepth 100000
set_option maxHeartbeats 2000000
theorem string_some (b g cap : Nat) (cur : Array Value) (p : Value) (l : List UInt8) (w : World) (h0 : l ≠ []) (hbk : w.heap[b]? = some (.cells #[p,.slice (some ⟨g,0,none⟩) l.length cap] 191 (0,0)))
    (hg : w.heap[g]? = some (.cells cur 5 (0,0))) (hnc : l.length ≤ cap) (hcm : cap ≤ maxLen) (hcs : cur.size = cap * 1) (hown : w.ownsRow 0 5 1 (.slice (some ⟨g,0,none⟩) l.length cap) l.length (Lib.byteCells l)) :
    Calls Tryz.prog 108 #[.pointer (some ⟨b,0,none⟩)] w fun e w'=>e = .returned (.string ⟨l.toArray⟩) ∧ Grew w w' (some g):=by
  have hl0 : l.length ≠ 0:=by simpa using h0
  have c1 : w.drew.cell? ⟨b,1,none⟩ = some (.slice (some ⟨g,0,none⟩) l.length cap):=by
    have : w.drew.heap[b]? = some (.cells #[p,.slice (some ⟨g,0,none⟩) l.length cap] 191 (0,0)):=hbk;rw [Lib.cell_of_heap this];rfl
  have hSD : (Builtin.unsafeSliceData_ #[189] 213 #[.slice (some ⟨g,0,none⟩) l.length cap]).run Tryz.prog w.drew = .ok (.pointer (some ⟨g,0,none⟩)) w.drew :=
    Lib.run_unsafeSliceData_row _ _ _ _ _ _ (by omega)
  have hUS : (Builtin.unsafeString_ #[213,3] 9 #[.pointer (some ⟨g,0,none⟩),.int .i64 l.length]).run Tryz.prog w.drew = .ok (.string ⟨l.toArray⟩) (w.drew.freeze ⟨g,0,none⟩ l.length):=by
    refine Lib.run_unsafeString_row w.drew 213 3 9 5 Tryz.underlying213 (by kernel_rfl) g cur.size (by have hg' : w.drew.heap[g]? = some (.cells cur 5 (0,0)):=hg;simp [World.shape?,hg']) l h0 (by omega) (by unfold maxLen at hcm;omega) ?_;intro j x hx;have:=hown.cells (g:=g) rfl j (.int .u8 x.toNat) (by simp [Lib.byteCells,hx]);exact this
  have mixed : Tryz.prog.follows .mixedOrders = true:=by kernel_rfl
  go_enter Tryz.func108,Tryz.ntmps108
  go_wp2
  go_region_o
  all_goals (go_wp2;go_ret;exact ⟨rfl,grew_freeze hT⟩)
theorem string_nil (b : Nat) (p : Value) (w : World) (hbk : w.heap[b]? = some (.cells #[p,.slice none 0 0] 191 (0,0))) :
    Calls Tryz.prog 108 #[.pointer (some ⟨b,0,none⟩)] w fun e w'=>e = .returned (.string ⟨#[]⟩) ∧ Grew w w' none:=by
  have hUS : ∀ (W : World) (q : Option Addr),(Builtin.unsafeString_ #[213,3] 9 #[.pointer q,.int .i64 0]).run Tryz.prog W = .ok (.string .empty) W:=fun W q=>Lib.run_unsafeString_none W _ _ _ q
  have c1 : w.drew.cell? ⟨b,1,none⟩ = some (.slice none 0 0):=by
    have : w.drew.heap[b]? = some (.cells #[p,.slice none 0 0] 191 (0,0)):=hbk;rw [Lib.cell_of_heap this];rfl
  have hSD : (Builtin.unsafeSliceData_ #[189] 213 #[.slice none 0 0]).run Tryz.prog w.drew = .ok (.pointer none) w.drew:=rfl;have mixed : Tryz.prog.follows .mixedOrders = true:=by kernel_rfl
  go_enter Tryz.func108,Tryz.ntmps108
  go_wp2
  go_region_o
  all_goals (go_wp2;go_ret;exact ⟨rfl,hT⟩)
theorem string_noroom (b g : Nat) (p : Value) (cur : Array Value) (w : World) (hbk : w.heap[b]? = some (.cells #[p,.slice (some ⟨g,0,none⟩) 0 0] 191 (0,0))) (hg : w.heap[g]? = some (.cells cur 5 (0,0))) :
    Calls Tryz.prog 108 #[.pointer (some ⟨b,0,none⟩)] w fun e w'=>e = .returned (.string ⟨#[]⟩) ∧ Grew w w' (some g):=by
  have hUS : ∀ (W : World) (q : Option Addr),(Builtin.unsafeString_ #[213,3] 9 #[.pointer q,.int .i64 0]).run Tryz.prog W = .ok (.string .empty) W:=fun W q=>Lib.run_unsafeString_none W _ _ _ q
  have hlt : b < w.heap.size:=(Array.getElem?_eq_some_iff.1 hbk).1;have c1 : w.drew.cell? ⟨b,1,none⟩ = some (.slice (some ⟨g,0,none⟩) 0 0):=by
    have : w.drew.heap[b]? = some (.cells #[p,.slice (some ⟨g,0,none⟩) 0 0] 191 (0,0)):=hbk;rw [Lib.cell_of_heap this];rfl
  have hSD : (Builtin.unsafeSliceData_ #[189] 213 #[.slice (some ⟨g,0,none⟩) 0 0]).run Tryz.prog w.drew = .ok (.pointer (some ⟨w.drew.heap.size,0,none⟩)) (w.drew.alloc (.view ⟨g,0,none⟩ 5)) :=
    Lib.run_unsafeSliceData_zero w.drew _ _ 5 Tryz.underlying213 ⟨g,0,none⟩ 0 (5,cur.size) (by have hg' : w.drew.heap[g]? = some (.cells cur 5 (0,0)):=hg;simp [World.shape?,hg'])
  have c2 : (w.drew.alloc (.view ⟨g,0,none⟩ 5)).cell? ⟨b,1,none⟩ = some (.slice (some ⟨g,0,none⟩) 0 0):=by
    have : (w.drew.alloc (.view ⟨g,0,none⟩ 5)).heap[b]? = _:=(Lib.alloc_old w.drew _ b hlt).trans hbk;rw [Lib.cell_of_heap this];rfl
  have c3 : (w.alloc (.view ⟨g,0,none⟩ 5)).drew.cell? ⟨b,1,none⟩ = some (.slice (some ⟨g,0,none⟩) 0 0):=c2;have c0 : w.cell? ⟨b,1,none⟩ = some (.slice (some ⟨g,0,none⟩) 0 0):=c1;have mixed : Tryz.prog.follows .mixedOrders = true:=by kernel_rfl
  go_enter Tryz.func108,Tryz.ntmps108
  go_wp2
  go_region_o
  all_goals (go_wp2;go_ret;exact ⟨rfl,grew_alloc⟩)
theorem string_room (b g cap : Nat) (p : Value) (w : World) (hc0 : cap ≠ 0) (hbk : w.heap[b]? = some (.cells #[p,.slice (some ⟨g,0,none⟩) 0 cap] 191 (0,0))) :
    Calls Tryz.prog 108 #[.pointer (some ⟨b,0,none⟩)] w fun e w'=>e = .returned (.string ⟨#[]⟩) ∧ Grew w w' (some g):=by
  have hUS : ∀ (W : World) (q : Option Addr),(Builtin.unsafeString_ #[213,3] 9 #[.pointer q,.int .i64 0]).run Tryz.prog W = .ok (.string .empty) W:=fun W q=>Lib.run_unsafeString_none W _ _ _ q
  have c1 : w.drew.cell? ⟨b,1,none⟩ = some (.slice (some ⟨g,0,none⟩) 0 cap):=by
    have : w.drew.heap[b]? = some (.cells #[p,.slice (some ⟨g,0,none⟩) 0 cap] 191 (0,0)):=hbk;rw [Lib.cell_of_heap this];rfl
  have hSD : (Builtin.unsafeSliceData_ #[189] 213 #[.slice (some ⟨g,0,none⟩) 0 cap]).run Tryz.prog w.drew = .ok (.pointer (some ⟨g,0,none⟩)) w.drew :=
    Lib.run_unsafeSliceData_row _ _ _ _ _ _ hc0
  clear hc0;have mixed : Tryz.prog.follows .mixedOrders = true:=by kernel_rfl
  go_enter Tryz.func108,Tryz.ntmps108
  go_wp2
  go_region_o
  all_goals (go_wp2;go_ret;exact ⟨rfl,hT⟩)
theorem string_calls (b : Nat) (p v : Value) (s : ByteArray) (w : World) (hbk : w.heap[b]? = some (.cells #[p,v] 191 (0,0))) (hown : w.ownsRow 0 5 1 v s.size (Lib.strCells s)) :
    Calls Tryz.prog 108 #[.pointer (some ⟨b,0,none⟩)] w fun e w'=>e = .returned (.string s) ∧ Grew w w' (blk (some v)):=by
  have hs : s = ⟨s.data.toList.toArray⟩:=by cases s;simp
  have hsz : s.size = s.data.toList.length:=by cases s;rfl
  rcases hown.2 with ⟨rfl,hz⟩|⟨g,cap,cur,rfl,_,hg,hnc,hcm,hcs,htake⟩
  · have hl : s.data.toList = []:=List.eq_nil_of_length_eq_zero (by rw [← hsz];exact hz);rw [hl] at hs;refine (string_nil b p w hbk).mono ?_
    rintro e w' ⟨rfl,h⟩
    exact ⟨by rw [hs],h⟩
  · by_cases h0 : s.size = 0
    · have hl : s.data.toList = []:=List.eq_nil_of_length_eq_zero (by rw [← hsz];exact h0);rw [hl] at hs;rw [h0] at hbk
      by_cases hc : cap = 0
      · subst hc;refine (string_noroom b g p cur w hbk hg).mono ?_
        rintro e w' ⟨rfl,h⟩
        exact ⟨by rw [hs],h⟩
      · refine (string_room b g cap p w hc hbk).mono ?_
        rintro e w' ⟨rfl,h⟩
        exact ⟨by rw [hs],h⟩
    · rw [hsz] at hbk hnc hown;refine (string_some b g cap cur p s.data.toList w (fun e=>h0 (by rw [hsz,e];rfl)) hbk hg hnc hcm hcs hown).mono ?_
      rintro e w' ⟨rfl,h⟩
      exact ⟨by rw [← hs],h⟩
theorem string_o (u : Bool) (s : ByteArray) : yB Tryz.prog 108 [.one (.own 0 0)] (bldO u (xX s)) 2 (is s) [] 2:=by
  refine ⟨⟨_,Tryz.func108,rfl,rfl⟩,fun cx ρ w vs hN hnx hw hs hvs=>?_⟩;obtain ⟨b,cs,hρ,hh,hcs⟩:=hs.obs (0,.box 191 [.nself u 0,.vec 1]) (by simp);obtain ⟨p,r,rfl,hp,v,r2,rfl,hv,hr⟩:=hcs;rw [show r2 = [] from hr] at hh;obtain ⟨q,r3,rfl,⟨b',hb1,hb2⟩,hr3⟩:=hvs;rw [hρ] at hb1;simp only [Option.some.injEq,Value.pointer.injEq,Addr.mk.injEq,and_true] at hb1;subst hb1;rw [show r3 = [] from hr3,hb2];have hh : w.heap[b]? = some (.cells #[p,v] 191 (0,0)):=hh;obtain ⟨v',hv',css,h1,h2,h3⟩:=hs.obs (1,.vec 5 (.int .u8) (xX s)) (by simp);have hv1 : ρ 1 = some v:=hv.1;rw [show ρ 1 = some v' from hv'] at hv1;obtain rfl:=Option.some.inj hv1;have hc : css = (xX s).map fun n=>[Value.int .u8 n]:=by
    apply List.ext_getElem
    · simp [h1]
    · intro i hi hi';have hlt : i < (xX s).length:=by rw [← h1];exact hi
      have h4 : css.getD i [] = [.int .u8 (xX s)[i]]:=h2 i hlt;simp only [List.getD,List.getElem?_eq_getElem hi,Option.getD_some] at h4;rw [h4,List.getElem_map]
  have hown : w.ownsRow 0 5 1 v' s.size (Lib.strCells s):=by
    rw [← flat_ints,← hc,← cW];exact h3
  refine (string_calls b p v' s w hh hown).mono ?_
  rintro e w' ⟨rfl,hg⟩
  refine ⟨_,ρ,rfl,⟨hs.size,uL.none hN.2.2,fun _=>trivial,fun p hp=>by (cases hp),List.nodup_nil,fun p hp=>by (cases hp),hs.names,hs.nx0,fun p hp=>by (cases hp),fun p hp=>by (cases hp),?_,hs.disj,hs.pin,hs.glob,hs.bags⟩,rfl⟩;refine ⟨by rw [hw];exact hg.os,by rw [hw];exact hg.tape,by rw [hw];exact hg.output,by rw [hw];exact hg.size,fun k hk hno=>?_,fun k hbg=>by rw [hw];exact .rfl' (hg.block k (by have:=(hs.bags k hbg).1;rw [hw] at this;exact this) fun e=>hs.bag_own hbg (p:=(1,.vec 5 (.int .u8) (xX s))) (by simp) (by rw [show ρ 1 = some v' from hv'];exact e.symm))⟩;rw [hw] at hk ⊢;refine fun _=>hg.block k hk fun e=>?_
  rcases (hs.low (1,.vec 5 (.int .u8) (xX s)) (by simp) k (by rw [show ρ 1 = some v' from hv'];exact e.symm)).2 with h4|h4
  · rw [hw] at h4;omega
  · exact hno h4
end Ab
end Go.Proofs.YtmaekcmknibmeaaGreatDoor
namespace Go.Proofs
open Go.Shelf
def Tryz.lays156_ren : Go.Shelf.Ren:=⟨fun|156=>83|165=>106|166=>107|169=>108|240=>133|241=>134|276=>148|277=>149|n=>n,fun|31=>117|9=>9|3=>3|4=>4|0=>0|20=>20|72=>191|76=>67|70=>188|37=>189|75=>28|127=>213|164=>223|5=>5|80=>194|n=>n,fun|n=>n⟩
theorem Tryz.lays156 : Go.Proofs.Lays.n156 Tryz.prog Tryz.lays156_ren:={
  mixed:=by kernel_rfl
  f156:=Tryz.func83.trans (congrArg some (by kernel_rfl))
  f165:=Tryz.func106.trans (congrArg some (by kernel_rfl))
  f166:=Tryz.func107.trans (congrArg some (by kernel_rfl))
  f169:=Tryz.func108.trans (congrArg some (by kernel_rfl))
  f240:=Tryz.func133.trans (congrArg some (by kernel_rfl))
  f241:=Tryz.func134.trans (congrArg some (by kernel_rfl))
  f276:=Tryz.func148.trans (congrArg some (by kernel_rfl))
  f277:=Tryz.func149.trans (congrArg some (by kernel_rfl))
  t0:=Tryz.underlying0
  a0:=Tryz.isAgg0
  z0:=Tryz.sizeOf0
  v0:=Tryz.zeroValue0
  t3:=Tryz.underlying3
  a3:=Tryz.isAgg3
  z3:=Tryz.sizeOf3
  v3:=Tryz.zeroValue3
  t4:=Tryz.underlying4
  a4:=Tryz.isAgg4
  z4:=Tryz.sizeOf4
  v4:=Tryz.zeroValue4
  t9:=Tryz.underlying9
  a9:=Tryz.isAgg9
  z9:=Tryz.sizeOf9
  v9:=Tryz.zeroValue9
  t20:=Tryz.underlying20
  a20:=Tryz.isAgg20
  z20:=Tryz.sizeOf20
  v20:=Tryz.zeroValue20
  t31:=Tryz.underlying117
  a31:=Tryz.isAgg117
  z31:=Tryz.sizeOf117
  v31:=Tryz.zeroValue117
  t37:=Tryz.underlying189
  a37:=Tryz.isAgg189
  z37:=Tryz.sizeOf189
  v37:=Tryz.zeroValue189
  t70:=Tryz.underlying188
  a70:=Tryz.isAgg188
  z70:=Tryz.sizeOf188
  v70:=Tryz.zeroValue188
  t72:=Tryz.underlying191
  a72:=Tryz.isAgg191
  z72:=Tryz.sizeOf191
  v72:=Tryz.zeroValue191
  t75:=Tryz.underlying28
  a75:=Tryz.isAgg28
  z75:=Tryz.sizeOf28
  v75:=Tryz.zeroValue28
  t76:=Tryz.underlying67
  a76:=Tryz.isAgg67
  z76:=Tryz.sizeOf67
  v76:=Tryz.zeroValue67
  t127:=Tryz.underlying213
  a127:=Tryz.isAgg213
  z127:=Tryz.sizeOf213
  v127:=Tryz.zeroValue213
  t164:=Tryz.underlying223
  a164:=Tryz.isAgg223
  z164:=Tryz.sizeOf223
  v164:=Tryz.zeroValue223 }
theorem Tryz.Builder_Extra_156 : Builder.Extra Tryz.prog Tryz.lays156_ren:={
  sizeBuilder:=by kernel_rfl
  liesBuilder:=by kernel_rfl
  t5:=Tryz.underlying5
  a5:=Tryz.isAgg5
  z5:=Tryz.sizeOf5
  v5:=Tryz.zeroValue5
  infoByte:=by kernel_rfl
  cellsByte:=by kernel_rfl
  sizeByte:=by kernel_rfl
  neB5:=by decide }
open Go.RowKit in
theorem Tryz.strings_Join_none (a : Option Addr) (c : Nat) (sep : ByteArray) (w : World) :
    Calls Tryz.prog 83 #[.slice a 0 c,.string sep] w fun e w'=>e = .returned (.string ⟨#[]⟩) ∧ w' = w:=Any.strings_Join_none Tryz.lays156 Tryz.Builder_Extra_156 a c sep w
open Go.RowKit in
theorem Tryz.strings_Join (bk o c : Nat) (xs : List ByteArray) (sep : ByteArray) (w : World) (hcells : ∀ (j : Nat) x,xs[j]? = some x → w.cell? ⟨bk,o + j,none⟩ = some (.string x)) (hbk : bk < w.heap.size) (hN : xs.length ≤ 140737488355328) (hcap : xs.length ≤ c) (hlen : (Lib.join (xs.map (·.data.toList)) sep.data.toList).length ≤ 140737488355328) :
    Calls Tryz.prog 83 #[.slice (some ⟨bk,o,none⟩) xs.length c,.string sep] w fun e w'=>e = .returned (.string ⟨(Lib.join (xs.map (·.data.toList)) sep.data.toList).toArray⟩) ∧ Below w.heap.size w w':=Any.strings_Join Tryz.lays156 Tryz.Builder_Extra_156 bk o c xs sep w hcells hbk hN hcap hlen
def Tryz.lays160_ren : Go.Shelf.Ren:=⟨fun|160=>101|232=>124|231=>123|227=>125|234=>127|233=>126|236=>129|235=>128|228=>143|271=>146|151=>145|197=>144|120=>155|152=>154|260=>153|137=>158|119=>159|224=>141|225=>140|217=>139|266=>151|n=>n,fun|9=>9|4=>4|3=>3|5=>5|117=>209|116=>208|0=>0|124=>212|21=>21|105=>220|46=>219|119=>232|139=>235|138=>234|n=>n,fun|3=>1|4=>2|n=>n⟩
theorem Tryz.lays160 : Go.Proofs.Lays.n160 Tryz.prog Tryz.lays160_ren:={
  mixed:=by kernel_rfl
  f119:=Tryz.func159.trans (congrArg some (by kernel_rfl))
  f120:=Tryz.func155.trans (congrArg some (by kernel_rfl))
  f137:=Tryz.func158.trans (congrArg some (by kernel_rfl))
  f151:=Tryz.func145.trans (congrArg some (by kernel_rfl))
  f152:=Tryz.func154.trans (congrArg some (by kernel_rfl))
  f160:=Tryz.func101.trans (congrArg some (by kernel_rfl))
  f197:=Tryz.func144.trans (congrArg some (by kernel_rfl))
  f217:=Tryz.func139.trans (congrArg some (by kernel_rfl))
  f224:=Tryz.func141.trans (congrArg some (by kernel_rfl))
  f225:=Tryz.func140.trans (congrArg some (by kernel_rfl))
  f227:=Tryz.func125.trans (congrArg some (by kernel_rfl))
  f228:=Tryz.func143.trans (congrArg some (by kernel_rfl))
  f231:=Tryz.func123.trans (congrArg some (by kernel_rfl))
  f232:=Tryz.func124.trans (congrArg some (by kernel_rfl))
  f233:=Tryz.func126.trans (congrArg some (by kernel_rfl))
  f234:=Tryz.func127.trans (congrArg some (by kernel_rfl))
  f235:=Tryz.func128.trans (congrArg some (by kernel_rfl))
  f236:=Tryz.func129.trans (congrArg some (by kernel_rfl))
  f260:=Tryz.func153.trans (congrArg some (by kernel_rfl))
  f266:=Tryz.func151.trans (congrArg some (by kernel_rfl))
  f271:=Tryz.func146.trans (congrArg some (by kernel_rfl))
  t0:=Tryz.underlying0
  a0:=Tryz.isAgg0
  z0:=Tryz.sizeOf0
  v0:=Tryz.zeroValue0
  t3:=Tryz.underlying3
  a3:=Tryz.isAgg3
  z3:=Tryz.sizeOf3
  v3:=Tryz.zeroValue3
  t4:=Tryz.underlying4
  a4:=Tryz.isAgg4
  z4:=Tryz.sizeOf4
  v4:=Tryz.zeroValue4
  t5:=Tryz.underlying5
  a5:=Tryz.isAgg5
  z5:=Tryz.sizeOf5
  v5:=Tryz.zeroValue5
  t9:=Tryz.underlying9
  a9:=Tryz.isAgg9
  z9:=Tryz.sizeOf9
  v9:=Tryz.zeroValue9
  t21:=Tryz.underlying21
  a21:=Tryz.isAgg21
  z21:=Tryz.sizeOf21
  v21:=Tryz.zeroValue21
  t46:=Tryz.underlying219
  a46:=Tryz.isAgg219
  z46:=Tryz.sizeOf219
  v46:=Tryz.zeroValue219
  t105:=Tryz.underlying220
  a105:=Tryz.isAgg220
  z105:=Tryz.sizeOf220
  v105:=Tryz.zeroValue220
  t116:=Tryz.underlying208
  a116:=Tryz.isAgg208
  z116:=Tryz.sizeOf208
  t117:=Tryz.underlying209
  a117:=Tryz.isAgg209
  z117:=Tryz.sizeOf209
  v117:=Tryz.zeroValue209
  t119:=Tryz.underlying232
  a119:=Tryz.isAgg232
  z119:=Tryz.sizeOf232
  t124:=Tryz.underlying212
  a124:=Tryz.isAgg212
  z124:=Tryz.sizeOf212
  v124:=Tryz.zeroValue212
  t138:=Tryz.underlying234
  a138:=Tryz.isAgg234
  z138:=Tryz.sizeOf234
  v138:=Tryz.zeroValue234
  t139:=Tryz.underlying235
  a139:=Tryz.isAgg235
  z139:=Tryz.sizeOf235
  v139:=Tryz.zeroValue235
  g3:=by kernel_rfl
  g4:=by kernel_rfl }
def Tryz.lays144_ren : Go.Shelf.Ren:=⟨fun|144=>100|143=>122|219=>121|217=>139|225=>140|224=>141|267=>142|266=>151|314=>152|n=>n,fun|9=>9|4=>4|3=>3|5=>5|46=>219|146=>228|51=>227|n=>n,fun|1=>0|n=>n⟩
theorem Tryz.lays144 : Go.Proofs.Lays.n144 Tryz.prog Tryz.lays144_ren:={
  mixed:=by kernel_rfl
  f143:=Tryz.func122.trans (congrArg some (by kernel_rfl))
  f144:=Tryz.func100.trans (congrArg some (by kernel_rfl))
  f217:=Tryz.func139.trans (congrArg some (by kernel_rfl))
  f219:=Tryz.func121.trans (congrArg some (by kernel_rfl))
  f224:=Tryz.func141.trans (congrArg some (by kernel_rfl))
  f225:=Tryz.func140.trans (congrArg some (by kernel_rfl))
  f266:=Tryz.func151.trans (congrArg some (by kernel_rfl))
  f267:=Tryz.func142.trans (congrArg some (by kernel_rfl))
  f314:=Tryz.func152.trans (congrArg some (by kernel_rfl))
  t3:=Tryz.underlying3
  a3:=Tryz.isAgg3
  z3:=Tryz.sizeOf3
  v3:=Tryz.zeroValue3
  t4:=Tryz.underlying4
  a4:=Tryz.isAgg4
  z4:=Tryz.sizeOf4
  v4:=Tryz.zeroValue4
  t5:=Tryz.underlying5
  a5:=Tryz.isAgg5
  z5:=Tryz.sizeOf5
  v5:=Tryz.zeroValue5
  t9:=Tryz.underlying9
  a9:=Tryz.isAgg9
  z9:=Tryz.sizeOf9
  v9:=Tryz.zeroValue9
  t46:=Tryz.underlying219
  a46:=Tryz.isAgg219
  z46:=Tryz.sizeOf219
  v46:=Tryz.zeroValue219
  t51:=Tryz.underlying227
  a51:=Tryz.isAgg227
  z51:=Tryz.sizeOf227
  v51:=Tryz.zeroValue227
  t146:=Tryz.underlying228
  a146:=Tryz.isAgg228
  z146:=Tryz.sizeOf228
  v146:=Tryz.zeroValue228
  g1:=by kernel_rfl }
open Go.RowKit Go.Lib in
theorem Tryz.strings_Contains (s sub : ByteArray) (m : Int) (w : World) (hs : s.size < 4294967281) (hm : w.cell? ⟨0,0,none⟩ = some (.int .i64 m)) :
    Calls Tryz.prog 100 #[.string s,.string sub] w fun e w'=>e = .returned (.bool (Lib.contains s.data.toList sub.data.toList)) ∧ w' = w:=Any.strings_Contains Tryz.lays144 s sub m w hs hm
def Tryz.lays145_ren : Go.Shelf.Ren:=⟨fun|145=>77|220=>99|219=>121|217=>139|225=>140|224=>141|267=>142|266=>151|314=>152|n=>n,fun|9=>9|4=>4|59=>160|3=>3|5=>5|46=>219|146=>228|51=>227|n=>n,fun|1=>0|n=>n⟩
theorem Tryz.lays145 : Go.Proofs.Lays.n145 Tryz.prog Tryz.lays145_ren:={
  mixed:=by kernel_rfl
  f145:=Tryz.func77.trans (congrArg some (by kernel_rfl))
  f217:=Tryz.func139.trans (congrArg some (by kernel_rfl))
  f219:=Tryz.func121.trans (congrArg some (by kernel_rfl))
  f220:=Tryz.func99.trans (congrArg some (by kernel_rfl))
  f224:=Tryz.func141.trans (congrArg some (by kernel_rfl))
  f225:=Tryz.func140.trans (congrArg some (by kernel_rfl))
  f266:=Tryz.func151.trans (congrArg some (by kernel_rfl))
  f267:=Tryz.func142.trans (congrArg some (by kernel_rfl))
  f314:=Tryz.func152.trans (congrArg some (by kernel_rfl))
  t3:=Tryz.underlying3
  a3:=Tryz.isAgg3
  z3:=Tryz.sizeOf3
  v3:=Tryz.zeroValue3
  t4:=Tryz.underlying4
  a4:=Tryz.isAgg4
  z4:=Tryz.sizeOf4
  v4:=Tryz.zeroValue4
  t5:=Tryz.underlying5
  a5:=Tryz.isAgg5
  z5:=Tryz.sizeOf5
  v5:=Tryz.zeroValue5
  t9:=Tryz.underlying9
  a9:=Tryz.isAgg9
  z9:=Tryz.sizeOf9
  v9:=Tryz.zeroValue9
  t46:=Tryz.underlying219
  a46:=Tryz.isAgg219
  z46:=Tryz.sizeOf219
  v46:=Tryz.zeroValue219
  t51:=Tryz.underlying227
  a51:=Tryz.isAgg227
  z51:=Tryz.sizeOf227
  v51:=Tryz.zeroValue227
  t59:=Tryz.underlying160
  a59:=Tryz.isAgg160
  z59:=Tryz.sizeOf160
  v59:=Tryz.zeroValue160
  t146:=Tryz.underlying228
  a146:=Tryz.isAgg228
  z146:=Tryz.sizeOf228
  v146:=Tryz.zeroValue228
  g1:=by kernel_rfl }
open Go.RowKit Go.Lib in
theorem Tryz.strings_Cut (s sep : ByteArray) (m : Int) (w : World) (hs : s.size < 4294967281) (hm : w.cell? ⟨0,0,none⟩ = some (.int .i64 m)) :
    Calls Tryz.prog 77 #[.string s,.string sep] w fun e w'=>e = .returned (.tuple #[.string ⟨(Lib.cut s.data.toList sep.data.toList).1.toArray⟩,.string ⟨(Lib.cut s.data.toList sep.data.toList).2.1.toArray⟩,.bool (Lib.cut s.data.toList sep.data.toList).2.2]) ∧ ∃ n,w' = w.drewN n:=Any.strings_Cut Tryz.lays145 s sep m w hs hm
def Tryz.lays99_ren : Go.Shelf.Ren:=⟨fun|99=>102|206=>130|n=>n,fun|9=>9|4=>4|3=>3|n=>n,fun|n=>n⟩
theorem Tryz.lays99 : Go.Proofs.Lays.n99 Tryz.prog Tryz.lays99_ren:={
  mixed:=by kernel_rfl
  f99:=Tryz.func102.trans (congrArg some (by kernel_rfl))
  f206:=Tryz.func130.trans (congrArg some (by kernel_rfl))
  t3:=Tryz.underlying3
  a3:=Tryz.isAgg3
  z3:=Tryz.sizeOf3
  v3:=Tryz.zeroValue3
  t4:=Tryz.underlying4
  a4:=Tryz.isAgg4
  z4:=Tryz.sizeOf4
  v4:=Tryz.zeroValue4
  t9:=Tryz.underlying9
  a9:=Tryz.isAgg9
  z9:=Tryz.sizeOf9
  v9:=Tryz.zeroValue9 }
open Go.RowKit Go.Lib in
theorem Tryz.strings_HasPrefix (s p : ByteArray) (w : World) :
    Calls Tryz.prog 102 #[.string s,.string p] w fun e w'=>e = .returned (.bool (Lib.hasPrefix s.data.toList p.data.toList)) ∧ w' = w:=Any.strings_HasPrefix Tryz.lays99 s p w
def Tryz.lays101_ren : Go.Shelf.Ren:=⟨fun|101=>132|208=>147|206=>130|n=>n,fun|9=>9|4=>4|3=>3|n=>n,fun|n=>n⟩
theorem Tryz.lays101 : Go.Proofs.Lays.n101 Tryz.prog Tryz.lays101_ren:={
  mixed:=by kernel_rfl
  f101:=Tryz.func132.trans (congrArg some (by kernel_rfl))
  f206:=Tryz.func130.trans (congrArg some (by kernel_rfl))
  f208:=Tryz.func147.trans (congrArg some (by kernel_rfl))
  t3:=Tryz.underlying3
  a3:=Tryz.isAgg3
  z3:=Tryz.sizeOf3
  v3:=Tryz.zeroValue3
  t4:=Tryz.underlying4
  a4:=Tryz.isAgg4
  z4:=Tryz.sizeOf4
  v4:=Tryz.zeroValue4
  t9:=Tryz.underlying9
  a9:=Tryz.isAgg9
  z9:=Tryz.sizeOf9
  v9:=Tryz.zeroValue9 }
open Go.RowKit Go.Lib in
theorem Tryz.strings_TrimPrefix (s p : ByteArray) (w : World) :
    Calls Tryz.prog 132 #[.string s,.string p] w fun e w'=>e = .returned (.string ⟨(Lib.trimPrefix s.data.toList p.data.toList).toArray⟩) ∧ w' = w:=Any.strings_TrimPrefix Tryz.lays101 s p w
def Tryz.lays146_ren : Go.Shelf.Ren:=⟨fun|146=>137|221=>150|268=>156|138=>157|143=>122|195=>160|197=>144|218=>161|219=>121|260=>153|217=>139|225=>140|224=>141|267=>142|266=>151|314=>152|n=>n,fun|9=>9|31=>117|3=>3|4=>4|0=>0|105=>220|21=>21|5=>5|46=>219|119=>232|139=>235|138=>234|146=>228|51=>227|n=>n,fun|1=>0|3=>1|4=>2|n=>n⟩
theorem Tryz.lays146 : Go.Proofs.Lays.n146 Tryz.prog Tryz.lays146_ren:={
  mixed:=by kernel_rfl
  f138:=Tryz.func157.trans (congrArg some (by kernel_rfl))
  f143:=Tryz.func122.trans (congrArg some (by kernel_rfl))
  f146:=Tryz.func137.trans (congrArg some (by kernel_rfl))
  f195:=Tryz.func160.trans (congrArg some (by kernel_rfl))
  f197:=Tryz.func144.trans (congrArg some (by kernel_rfl))
  f217:=Tryz.func139.trans (congrArg some (by kernel_rfl))
  f218:=Tryz.func161.trans (congrArg some (by kernel_rfl))
  f219:=Tryz.func121.trans (congrArg some (by kernel_rfl))
  f221:=Tryz.func150.trans (congrArg some (by kernel_rfl))
  f224:=Tryz.func141.trans (congrArg some (by kernel_rfl))
  f225:=Tryz.func140.trans (congrArg some (by kernel_rfl))
  f260:=Tryz.func153.trans (congrArg some (by kernel_rfl))
  f266:=Tryz.func151.trans (congrArg some (by kernel_rfl))
  f267:=Tryz.func142.trans (congrArg some (by kernel_rfl))
  f268:=Tryz.func156.trans (congrArg some (by kernel_rfl))
  f314:=Tryz.func152.trans (congrArg some (by kernel_rfl))
  t0:=Tryz.underlying0
  a0:=Tryz.isAgg0
  z0:=Tryz.sizeOf0
  v0:=Tryz.zeroValue0
  t3:=Tryz.underlying3
  a3:=Tryz.isAgg3
  z3:=Tryz.sizeOf3
  v3:=Tryz.zeroValue3
  t4:=Tryz.underlying4
  a4:=Tryz.isAgg4
  z4:=Tryz.sizeOf4
  v4:=Tryz.zeroValue4
  t5:=Tryz.underlying5
  a5:=Tryz.isAgg5
  z5:=Tryz.sizeOf5
  v5:=Tryz.zeroValue5
  t9:=Tryz.underlying9
  a9:=Tryz.isAgg9
  z9:=Tryz.sizeOf9
  v9:=Tryz.zeroValue9
  t21:=Tryz.underlying21
  a21:=Tryz.isAgg21
  z21:=Tryz.sizeOf21
  v21:=Tryz.zeroValue21
  t31:=Tryz.underlying117
  a31:=Tryz.isAgg117
  z31:=Tryz.sizeOf117
  v31:=Tryz.zeroValue117
  t46:=Tryz.underlying219
  a46:=Tryz.isAgg219
  z46:=Tryz.sizeOf219
  v46:=Tryz.zeroValue219
  t51:=Tryz.underlying227
  a51:=Tryz.isAgg227
  z51:=Tryz.sizeOf227
  v51:=Tryz.zeroValue227
  t105:=Tryz.underlying220
  a105:=Tryz.isAgg220
  z105:=Tryz.sizeOf220
  v105:=Tryz.zeroValue220
  t119:=Tryz.underlying232
  a119:=Tryz.isAgg232
  z119:=Tryz.sizeOf232
  t138:=Tryz.underlying234
  a138:=Tryz.isAgg234
  z138:=Tryz.sizeOf234
  v138:=Tryz.zeroValue234
  t139:=Tryz.underlying235
  a139:=Tryz.isAgg235
  z139:=Tryz.sizeOf235
  v139:=Tryz.zeroValue235
  t146:=Tryz.underlying228
  a146:=Tryz.isAgg228
  z146:=Tryz.sizeOf228
  v146:=Tryz.zeroValue228
  g1:=by kernel_rfl
  g3:=by kernel_rfl
  g4:=by kernel_rfl }
open Go.RowKit Go.Lib in
theorem Tryz.strings_Split (s sep : ByteArray) (m : Int) (w : World) (hs : s.size < 4294967281) (hm : w.cell? ⟨0,0,none⟩ = some (.int .i64 m)) (h1 : 1 ≤ sep.size) :
    Calls Tryz.prog 137 #[.string s,.string sep] w fun e w' =>
      e = .returned (.slice (some ⟨w.heap.size,0,none⟩) (Lib.countB s sep + 1) (Lib.countB s sep + 1)) ∧ w' = w.alloc (.cells ((Lib.splitB sep 0 (Lib.countB s sep) s).map Value.string).toArray 9):=Any.strings_Split Tryz.lays146 (by kernel_rfl) s sep m w hs hm h1
end Go.Proofs
namespace Go.Proofs.YtmaekcmknibmeaaGreatDoor
open Go.RowKit
namespace Ab
theorem acall2 {P : Program} {f : FuncId} {a b u : Value} {r : A} (hfn : FnOk P f) (hr : ∀ ok w,r.rep ok yI w u) (h : ∀ w,cT w → Calls P f #[a,b] w fun e w'=>e = .returned u ∧ Below w.heap.size w w') : qX P f [.one (.lit a),.one (.lit b)] r:=by
  refine ⟨hfn,fun ok w vs hg hvs=>?_⟩;obtain ⟨v,t,rfl,hv,v2,t2,rfl,hv2,ht⟩:=hvs;rw [show t2 = [] from ht,show v = a from hv,show v2 = b from hv2];refine (h w hg.2.2.max).mono ?_
  rintro e w' ⟨rfl,hb⟩
  exact ⟨_,rfl,hb,hr _ _⟩
theorem dC {e : Ending} {u : Value} {w w' : World} (h : e = .returned u ∧ w' = w) : e = .returned u ∧ Below w.heap.size w w':=⟨h.1,by rw [h.2];exact Below.refl _ _⟩
theorem gV (s p : ByteArray) : qX Tryz.prog 102 [is s,is p] (ib (Lib.hasPrefix s.data.toList p.data.toList)) :=
  acall2 ⟨_,Tryz.func102,rfl,rfl⟩ (fun _ _=>rfl) fun w _=>(Tryz.strings_HasPrefix s p w).mono fun _ _ h=>dC h
theorem gJ (s p : ByteArray) (hs : s.size < 4294967281) : qX Tryz.prog 100 [is s,is p] (ib (Lib.contains s.data.toList p.data.toList)) :=
  acall2 ⟨_,Tryz.func100,rfl,rfl⟩ (fun _ _=>rfl) fun w ⟨m,hm⟩=>(Tryz.strings_Contains s p m w hs hm).mono fun _ _ h=>dC h
theorem eB (s p : ByteArray) : qX Tryz.prog 132 [is s,is p] (is ⟨(Lib.trimPrefix s.data.toList p.data.toList).toArray⟩) :=
  acall2 ⟨_,Tryz.func132,rfl,rfl⟩ (fun _ _=>rfl) fun w _=>(Tryz.strings_TrimPrefix s p w).mono fun _ _ h=>dC h
theorem cut_c (s p : ByteArray) (hs : s.size < 4294967281) : qX Tryz.prog 77 [is s,is p] (.tup [(false,[.lit (.string ⟨(Lib.cut s.data.toList p.data.toList).1.toArray⟩)]),(false,[.lit (.string ⟨(Lib.cut s.data.toList p.data.toList).2.1.toArray⟩)]),(false,[.lit (.bool (Lib.cut s.data.toList p.data.toList).2.2)])]) :=
  acall2 ⟨_,Tryz.func77,rfl,rfl⟩ (fun _ _=>⟨_,rfl,_,_,rfl,⟨_,_,rfl,rfl,rfl⟩,_,_,rfl,⟨_,_,rfl,rfl,rfl⟩,_,_,rfl,⟨_,_,rfl,rfl,rfl⟩,rfl⟩) fun w ⟨m,hm⟩=>(Tryz.strings_Cut s p m w hs hm).mono fun _ _ h=>⟨h.1,by obtain ⟨n,hn⟩:=h.2;rw [hn];exact ⟨rfl,rfl,rfl,Nat.le_refl _,fun _ _=>rfl⟩⟩
theorem split_c (s p : ByteArray) (hs : s.size < 4294967281) (h1 : 1 ≤ p.size) (hc : Lib.countB s p + 1 ≤ maxLen) : qX Tryz.prog 137 [is s,is p] (.one (.sl .str (Lib.splitB p 0 (Lib.countB s p) s))):=by
  refine ⟨⟨_,Tryz.func137,rfl,rfl⟩,fun ok w vs hg hvs=>?_⟩;obtain ⟨v,t,rfl,hv,v2,t2,rfl,hv2,ht⟩:=hvs;rw [show t2 = [] from ht,show v = .string s from hv,show v2 = .string p from hv2];obtain ⟨m,hm⟩:=hg.2.2.max;refine (Tryz.strings_Split s p m w hs hm h1).mono ?_
  rintro e w' ⟨rfl,rfl⟩
  refine ⟨_,rfl,kU w _,?_⟩;have hl:=Lib.splitB_all p h1 0 (Lib.countB s p) s rfl;rw [← hl] at hc ⊢;refine ⟨_,_,rfl,Nat.le_refl _,hc,fun i hi=>⟨w.heap.size,0,[.string (Lib.splitB p 0 (Lib.countB s p) s)[i]],rfl,okU0 (.inr ⟨Nat.le_refl _,by decide⟩),by simp,⟨rfl,fun j hj=>?_⟩,rfl⟩⟩;obtain rfl : j = 0:=by simp only [Rd.n] at hj;omega
  have hh : (w.alloc (Obj.cells (List.map Value.string (Lib.splitB p 0 (Lib.countB s p) s)).toArray 9)).heap[w.heap.size]? = _:=gH w _;simp only [World.cell?,hh];simp [Rd.n,hi]
theorem wF (xs : List ByteArray) (sep : ByteArray) (hN : xs.length ≤ 140737488355328) (hlen : (Lib.join (xs.map (·.data.toList)) sep.data.toList).length ≤ 140737488355328) : qX Tryz.prog 83 [.one (.sl .str xs),is sep] (is ⟨(Lib.join (xs.map (·.data.toList)) sep.data.toList).toArray⟩):=by
  refine ⟨⟨_,Tryz.func83,rfl,rfl⟩,fun ok w vs hg hvs=>?_⟩;obtain ⟨v,t,rfl,⟨a,cap,rfl,h1,h2,hc⟩,v2,t2,rfl,hv2,ht⟩:=hvs;rw [show t2 = [] from ht,show v2 = .string sep from hv2]
  by_cases h0 : xs = []
  · subst h0;refine (Tryz.strings_Join_none a cap sep w).mono ?_
    rintro e w' ⟨rfl,rfl⟩
    exact ⟨_,rfl,Below.refl _ _,rfl⟩
  · have hpos : 0 < xs.length:=List.length_pos_iff.2 h0;obtain ⟨b,off,_,rfl,_,hb,_⟩:=hc 0 hpos;refine (Tryz.strings_Join b off cap xs sep w (fun j x hj=>?_) hb hN h1 hlen).mono ?_
    · obtain ⟨hjl,rfl⟩:=List.getElem?_eq_some_iff.1 hj;obtain ⟨b',off',cs,e,_,_,hcell,hr⟩:=hc j hjl;cases e;have hr : cs = [.string xs[j]]:=hr;have:=hcell.2 0 (by decide);rw [hr] at this
      simpa [Rd.n] using this
    · rintro e w' ⟨rfl,hb⟩
      exact ⟨_,rfl,hb,rfl⟩
theorem trimS_c (s p : ByteArray) (hp : p.data.toList.all (fun b=>decide (b.toNat < 128)) = true) (hps : p.size < 4294967281) (hs : s.size ≤ 9223372036854775807) : qX Tryz.prog 101 [is s,is p] (is ⟨(Lib.trimS s.data.toList p.data.toList).toArray⟩) :=
  acall2 ⟨_,Tryz.func101,rfl,rfl⟩ (fun _ _=>rfl) fun w _=>(Any.strings_Trim_laid Tryz.lays160 (by kernel_rfl) s p w hs hps (ascii_of_all hp)).mono fun _ _ h=>h
end Ab
end Go.Proofs.YtmaekcmknibmeaaGreatDoor
namespace Go.Proofs.YtmaekcmknibmeaaGreatDoor
open Go.RowKit
namespace Ab
set_option maxRecDepth 100000
abbrev Fld:=ByteArray × ByteArray
abbrev rFld : Rd Fld:=.st .str .str
theorem qQ {n b : Nat} (h : n ≤ 1000000000) (hb : b ≤ 1000) : n * b ≤ 140737488355328:=Nat.le_trans (Nat.mul_le_mul h hb) (by decide)
theorem map_next {α β : Type} (g : α → β) (d : α) {l : List α} {i : Nat} (h : i < l.length) (b : β) (hb : b = g (l.getD i d)) (c : List β) : c ++ (l.take i).map g ++ [b] = c ++ (l.take (i + 1)).map g:=by
  rw [hb,List.append_assoc,← yE d h,List.map_append];rfl
theorem drop_getD {α : Type} (l : List α) (d : α) (i : Nat) : (l.drop 1).getD i d = l.getD (i + 1) d:=by
  cases l with
  | nil=>simp
  | cons a b=>rfl
namespace Q
def yP (l : List Fld) : Prop:=l.length ≤ 1000 ∧ ∀ f ∈ l,f.1.size ≤ 1000000 ∧ f.2.size ≤ 1000000
def sumF (l : List Fld) : Nat:=(l.map fun f=>min f.1.size 10000 + min f.2.size 10000).sum
def zI (l : List Fld) : Bool:=decide (61 < l.length) || decide (6000 < sumF l)
theorem sumF_take (l : List Fld) (i : Nat) (h : i < l.length) : sumF (l.take (i + 1)) = sumF (l.take i) + (min (l.getD i (ByteArray.empty,ByteArray.empty)).1.size 10000 + min (l.getD i (ByteArray.empty,ByteArray.empty)).2.size 10000):=by
  rw [List.take_succ_eq_append_getElem h,sumF,List.map_append,List.sum_append,List.getD_eq_getElem?_getD,List.getElem?_eq_getElem h];simp [sumF]
theorem sumF_le (l : List Fld) (i : Nat) : sumF (l.take i) ≤ sumF l:=by
  conv=>rhs;rw [← List.take_append_drop i l,sumF,List.map_append,List.sum_append]
  exact Nat.le_add_right _ _
theorem much_c (l : List Fld) : qX Tryz.prog 46 [.one (.sl rFld l)] (ib (zI l)):=by
  refine qW (rs:=[2]) Tryz.func46 rfl rfl rfl teOk rfl ?_;refine qB ?_;refine qB ?_;refine qI ?_;refine qB ?_;intro l2_1
  try simp only [zds] at l2_1
  refine qN ?_;refine qR (fun (i : Nat)=>i ≤ l.length ∧ i ≤ 61 ∧ sumF (l.take i) ≤ 6000) (fun (i : Nat)=>[(3,ii .i64 (sumF (l.take i))),(6,.one (.sl rFld l)),(7,ii .i64 l.length),(8,ii .i64 i)]) (fun (i : Nat)=>[]) 0 (fun (i : Nat)=>l.length - i) 0 (⟨Nat.zero_le _,Nat.zero_le _,Nat.zero_le _⟩) (qP ⟨rfl,rfl,rfl,rfl⟩ trivial rfl) ?_;intro i hI0;obtain ⟨hi,hi2,hn⟩:=hI0;refine qB ?_;refine qI ?_;refine qJ rfl (fun h9=>?_) (fun h9=>?_)
  ·try simp only [decide_eq_true_eq] at h9
   try simp only [zds] at h9
   have hs:=sumF_take l i (by omega);refine qL ?_;refine qI ?_;refine qN ?_;refine qB ?_;refine zob ?_;refine qB ?_;refine zob ?_;refine zob ?_;refine qB ?_;refine zai (fun h=>trivial) ?_;refine zai (fun h=>⟨⟨h,trivial⟩,trivial⟩) ?_;refine zai (by first|(intro h;rw [h];rfl)|(intro h;cases h)) ?_;refine qJ rfl (fun h29=>?_) (fun h29=>?_)
   ·try simp only [decide_eq_true_eq,Bool.or_eq_true] at h29
    try simp only [Int.toNat_natCast,qF,qE] at h29
    refine qB ?_;refine qM ?_;refine xH ?_;unfold zI;have hz:=sumF_le l (i + 1);rcases h29 with h|h
    (rw [decide_eq_true (show 61 < l.length by omega)];rfl)
    rw [decide_eq_true (show 6000 < sumF l by omega),Bool.or_true]
   ·try simp only [decide_eq_false_iff_not,Bool.or_eq_false_iff,Int.not_lt] at h29
    try simp only [Int.toNat_natCast,qF,qE] at h29
    refine qL ?_;refine qH ?_;refine zob ?_;exact ⟨i + 1,⟨by omega,by omega,by omega⟩,by first|omega|(simp <;> omega),qP ⟨(qS (by (simp only [Int.toNat_natCast,qF,qE];omega))),rfl,rfl,rfl⟩ trivial rfl⟩
  ·try simp only [decide_eq_false_iff_not,Int.not_lt] at h9
   try simp only [zds] at h9
   refine qT ?_;refine qB ?_;refine qM ?_;refine xH ?_;have e : i = l.length:=by omega
   subst e;rw [List.take_length] at hn;unfold zI;rw [decide_eq_false (by omega),decide_eq_false (by omega)];rfl
theorem drop_cons {l : List UInt8} {i : Nat} (h : i < l.length) : l.drop i = l.getD i 0 :: l.drop (i + 1):=by
  rw [List.drop_eq_getElem_cons h,List.getD_eq_getElem?_getD,List.getElem?_eq_getElem h];rfl
theorem yC (s : ByteArray) : s.size = s.data.toList.length:=by cases s;rfl
theorem aY {a b : UInt8} (h : (a.toNat : Int) = (b.toNat : Int)) : a = b:=UInt8.toNat_inj.1 (by omega)
abbrev ls (s : ByteArray) : List UInt8:=s.data.toList
def bytes (l : List UInt8) : ByteArray:=⟨l.toArray⟩
theorem yN (l : List UInt8) : (bytes l).data.toList = l:=by simp [bytes]
theorem kA (s : ByteArray) : bytes (ls s) = s:=by cases s;rfl
def Clean (sep p : List UInt8) : Prop:=(∀ r j,j < p.length → Lib.occAt (p ++ sep ++ r) sep j = false) ∧ ∀ j,j ≤ p.length → Lib.occAt p sep j = false
theorem clean_one {c : UInt8} {p : List UInt8} (h : c ∉ p) : Clean [c] p:=by
  refine ⟨fun r j hj=>?_,fun j _=>?_⟩
  · refine Bool.eq_false_iff.2 fun e=>?_
    have:=Lib.occAt_head rfl e;rw [List.append_assoc,List.getElem?_append_left hj] at this;exact h (List.mem_of_getElem? this)
  · refine Bool.eq_false_iff.2 fun e=>?_
    exact h (List.mem_of_getElem? (Lib.occAt_head rfl e))
theorem vI (p q : List UInt8) (ps : List (List UInt8)) (sep : List UInt8) : Lib.join (p :: q :: ps) sep = p ++ sep ++ Lib.join (q :: ps) sep:=by
  rw [Lib.join_cons,Lib.join_cons];simp [Lib.joinTail]
theorem split_join {sep : List UInt8} (hs : sep ≠ []) : ∀ ps : List (List UInt8),ps ≠ [] → (∀ p ∈ ps,Clean sep p) → Lib.split (Lib.join ps sep) sep = ps
  | [],h,_=>absurd rfl h
  | [p],_,hc=>by
    unfold Lib.split;rw [Lib.join_one,Lib.count_miss (Lib.index_none (hc p (by simp)).2)];rfl
  | p :: q :: ps,_,hc=>by
    have hi : Lib.index (Lib.join (p :: q :: ps) sep) sep = p.length:=by
      rw [vI];exact Lib.index_first (by simp) (by unfold Lib.occAt;rw [List.append_assoc,List.drop_left];exact List.isPrefixOf_iff_prefix.2 ⟨_,rfl⟩) ((hc p (by simp)).1 _)
    have hd : (Lib.join (p :: q :: ps) sep).drop (p.length + sep.length) = Lib.join (q :: ps) sep:=by
      rw [vI,← List.length_append,List.drop_left]
    have ht : (Lib.join (p :: q :: ps) sep).take (p.length + 0) = p:=by
      rw [vI,List.append_assoc,Nat.add_zero,List.take_left]
    have ih:=split_join hs (q :: ps) (by simp) fun p hp=>hc p (by simp [hp])
    unfold Lib.split at *;rw [Lib.count_hit hs hi,hd,Nat.add_comm,Lib.splitK,hi,if_neg (by intro e;have:=beq_iff_eq.1 e;omega),Int.toNat_natCast,ht,hd,ih]
theorem ints_app (l m : List UInt8) : xX (bytes l) ++ xX (bytes m) = xX (bytes (l ++ m)):=by
  unfold xX;rw [yN,yN,yN,List.map_append]
theorem ints_len (l : List UInt8) : (xX (bytes l)).length = l.length:=by unfold xX;rw [yN,List.length_map]
theorem iL {s : ByteArray} {i : Nat} (h : i < s.data.toList.length) : s.extract i (i + 1) = bytes [s.data.toList.getD i 0]:=by
  apply ByteArray.ext;apply Array.ext';rw [yN,Lib.extract_data,Nat.add_sub_cancel_left,drop_cons h];rfl
theorem xS (l m : List UInt8) : bytes (l ++ m) = bytes l ++ bytes m:=by
  apply ByteArray.ext;simp [bytes]
theorem ints_add (l m : List UInt8) (t : ByteArray) (h : t = bytes m) : xX (bytes l) ++ xX t = xX (bytes (l ++ m)):=by rw [h,ints_app]
theorem yR (l : List UInt8) : (bytes l).size = l.length:=by rw [yC,yN]
theorem uW (s : ByteArray) (a b : Nat) : (s.extract a b).data.toList = (s.data.toList.drop a).take (b - a):=Lib.extract_data s a b
theorem split_v (s p : ByteArray) (ws : List ByteArray) (hw : Lib.splitB p 0 (Lib.countB s p) s = ws) (hs : s.size ≤ 1000000) (h1 : 1 ≤ p.size) : qX Tryz.prog 137 [is s,is p] (.one (.sl .str ws)):=by
  subst hw;exact split_c s p (by omega) h1 (by have:=Lib.countB_le p h1 _ s (Nat.le_refl _);unfold maxLen;omega)
theorem dA (p : ByteArray) : ∀ (k : Nat) (s : ByteArray),∀ x ∈ Lib.splitB p 0 k s,x.size ≤ s.size
  | 0,s,x,hx=>by rw [List.mem_singleton.1 hx];exact Nat.le_refl _
  | k + 1,s,x,hx=>by
    unfold Lib.splitB at hx;split at hx
    · rw [List.mem_singleton.1 hx];exact Nat.le_refl _
    · rcases List.mem_cons.1 hx with rfl|hx
      · rw [ByteArray.size_extract];omega
      · have:=dA p k _ x hx;rw [ByteArray.size_extract] at this;omega
theorem fR (p s : ByteArray) (h1 : 1 ≤ p.size) : (Lib.splitB p 0 (Lib.countB s p) s).length ≤ s.size + 1:=by
  rw [Lib.splitB_all p h1 0 _ s rfl];have:=Lib.countB_le p h1 _ s (Nat.le_refl _);omega
theorem eG (p s : ByteArray) : (Lib.splitB p 0 (Lib.countB s p) s).map ls = Lib.split (ls s) (ls p):=Lib.splitB_data p 0 _ s
theorem map_take_succ {α β : Type} (g : α → β) (l : List α) (d : α) (i : Nat) (h : i < l.length) : (l.take (i + 1)).map g = (l.take i).map g ++ [g (l.getD i d)]:=by
  rw [← yE d h,List.map_append];rfl
theorem ls_inj {s : ByteArray} {l : List UInt8} (h : ls s = l) : s = bytes l:=by rw [← h,kA]
theorem gQ (l : List UInt8) (c : UInt8) (i : Nat) : Lib.occAt l [c] i = true ↔ l[i]? = some c:=by
  refine ⟨fun h=>Lib.occAt_head rfl h,fun h=>?_⟩;unfold Lib.occAt;obtain ⟨hi,e⟩:=List.getElem?_eq_some_iff.1 h;rw [List.drop_eq_getElem_cons hi,e];simp [List.isPrefixOf]
theorem wP (l : List UInt8) (c : UInt8) : Lib.contains l [c] = decide (c ∈ l):=by
  unfold Lib.contains;refine decide_eq_decide.2 ⟨fun h=>?_,fun h=>?_⟩
  · rcases Lib.index_spec l [c] with ⟨e,_⟩|⟨i,_,_,h3,_⟩
    · omega
    · exact List.mem_of_getElem? ((gQ l c i).1 h3)
  · obtain ⟨i,hi,e⟩:=List.getElem_of_mem h;rcases Lib.index_spec l [c] with ⟨_,h2⟩|⟨i,h1,_⟩
    · have:=h2 i (Nat.le_of_lt hi);rw [(gQ l c i).2 (by rw [List.getElem?_eq_getElem hi,e])] at this;cases this
    · omega
def blankC (c : UInt8) : Bool:=decide (c = 32) || decide (c = 9)
def aR (l : List UInt8) : Bool:=decide (1 ≤ l.length) && blankC (l.getD 0 0)
def vA (l : List UInt8) : Bool:=(((((decide (1 ≤ l.length) && decide (l.length ≤ 32)) && !blankC (l.getD 0 0)) && !decide (l.getD 0 0 = 35)) && !decide (58 ∈ l)) && !decide (10 ∈ l))
theorem emp {s : ByteArray} : s = ⟨#[]⟩ ↔ s.data.toList.length = 0:=by
  refine ⟨fun h=>by rw [h];rfl,fun h=>?_⟩;have:=List.eq_nil_of_length_eq_zero h;rw [← kA s,show ls s = [] from this];rfl
theorem jT (l : List UInt8) (c : UInt8) : Lib.hasPrefix l [c] = (decide (1 ≤ l.length) && decide (l.getD 0 0 = c)):=by
  unfold Lib.hasPrefix;cases l with
  | nil=>rfl
  | cons d l =>
    have : (c == d) = decide (d = c):=by rw [Bool.eq_iff_iff,beq_iff_eq,decide_eq_true_iff];exact eq_comm
    simp [List.isPrefixOf,this]
theorem u8_iff (c d : UInt8) : ((c.toNat : Int) = d.toNat) ↔ c = d:=⟨aY,fun h=>by rw [h]⟩
theorem keyOk_prog (l : List UInt8) : vA l = (!(((decide (l.length = 0) || decide (32 < l.length)) || aR l) || Lib.hasPrefix l [35]) && (!Lib.contains l [58] && !Lib.contains l [10])):=by
  rw [wP,wP,jT];unfold vA aR
  by_cases h : 1 ≤ l.length
  · have h0 : ¬ l.length = 0:=by omega
    by_cases h2 : l.length ≤ 32
    · have h3 : ¬ 32 < l.length:=by omega
      simp [h,h0,h2,h3,Bool.and_assoc]
    · have h3 : 32 < l.length:=by omega
      simp [h2,h3]
  · have h0 : l.length = 0:=by omega
    simp [h0]
theorem blank_c (s : ByteArray) (hs : s.size ≤ 1000000000) : qX Tryz.prog 103 [is s] (ib (aR s.data.toList)):=by
  have hz:=yC s;refine qW (rs:=[2]) Tryz.func103 rfl rfl rfl teOk rfl ?_;refine qB ?_;refine qB ?_;refine zai (fun h=>trivial) ?_;refine zai (fun h=>⟨⟨⟨h,trivial⟩,trivial⟩,by have h9 : ¬ s = ⟨#[]⟩:=(by simpa [gq] using h);rw [emp] at h9;omega⟩) ?_;refine Or.inl ?_;refine zai (rfl) ?_;refine zei _ (zai (fun h=>⟨⟨⟨h,trivial⟩,trivial⟩,gJ _ _ (by decide)⟩) ?_);refine zai (by exact fun h=>h) ?_;refine qM ?_;refine xH ?_
  by_cases h : s.data.toList.length = 0
  ·rw [decide_eq_true (emp.2 h),Bool.not_true,Bool.false_and];unfold aR;rw [h];rfl
  ·rw [decide_eq_false (fun e=>h (emp.1 e)),show s.extract (Int.toNat 0) (Int.toNat 1) = bytes [s.data.toList.getD 0 0] from iL (by omega),yN,wP];unfold aR blankC;rw [decide_eq_true (show 1 ≤ s.data.toList.length by omega)];simp
theorem key_c (s : ByteArray) (hs : s.size ≤ 1000000000) : qX Tryz.prog 104 [is s] (ib (vA s.data.toList)):=by
  have hz:=yC s;refine qW (rs:=[2]) Tryz.func104 rfl rfl rfl teOk rfl ?_;refine qB ?_;refine qI ?_;refine qB ?_;refine zai (fun h=>trivial) ?_;refine zai (fun h=>⟨⟨h,trivial⟩,trivial⟩) ?_;refine zai (fun h=>⟨⟨h,trivial⟩,trivial⟩) ?_;refine zai (by first|(intro h;rw [h];rfl)|(intro h;cases h)) ?_;refine zai (fun h=>trivial) ?_;refine Or.inl ?_;refine zai (rfl) ?_;refine zei _ (zai (fun h=>⟨⟨⟨h,trivial⟩,trivial⟩,blank_c _ hs⟩) ?_);refine zai (by first|(intro h;rw [h];rfl)|(intro h;cases h)) ?_;refine zai (fun h=>trivial) ?_;refine Or.inl ?_;refine zai (rfl) ?_;refine zei _ (zai (fun h=>⟨⟨⟨h,trivial⟩,trivial⟩,gV _ _⟩) ?_);refine zai (by first|(intro h;rw [h];rfl)|(intro h;cases h)) ?_;refine qJ rfl (fun h17=>?_) (fun h17=>?_)
  ·try simp only [decide_eq_true_eq,Bool.or_eq_true] at h17
   try simp only [zds] at h17
   refine qB ?_;refine qM ?_;refine xH ?_;rw [keyOk_prog];rw [emp] at h17;rcases h17 with ((h|h)|h)|h
   ·simp [h]
   ·rw [decide_eq_true (show 32 < s.data.toList.length by omega)];simp
   ·simp [h]
   ·simp [h]
  ·try simp only [decide_eq_false_iff_not,Bool.or_eq_false_iff,Int.not_lt] at h17
   try simp only [zds] at h17
   refine qL ?_;refine qB ?_;refine Or.inl ?_;refine zai (rfl) ?_;refine zei _ (zai (gJ _ _ (by omega)) ?_);refine zai (fun h=>trivial) ?_;refine Or.inl ?_;refine zai (rfl) ?_;refine zei _ (zai (fun h=>⟨⟨⟨h,trivial⟩,trivial⟩,gJ _ _ (by omega)⟩) ?_);refine zai (fun h=>⟨⟨h,trivial⟩,trivial⟩) ?_;refine zai (by exact fun h=>h) ?_;refine qM ?_;refine xH ?_;rw [keyOk_prog];rw [emp] at h17;obtain ⟨⟨⟨h1,h2⟩,h3⟩,h4⟩:=h17;simp only [h3,h4,decide_eq_false h1,decide_eq_false (show ¬ 32 < s.data.toList.length by omega)];rfl
theorem dE (c : UInt8) (n : Int) (hn : n = c.toNat) : qX Tryz.prog 84 [ii .u8 n] (ib (blankC c)):=by
  subst hn;refine qW (rs:=[2]) Tryz.func84 rfl rfl rfl teOk rfl ?_;refine qB ?_;refine qB ?_;refine zai (fun h=>trivial) ?_;refine zai (fun h=>⟨⟨h,trivial⟩,trivial⟩) ?_;refine zai (by first|(intro h;rw [h];rfl)|(intro h;cases h)) ?_;refine qM ?_;refine xH ?_;unfold blankC;rw [decide_eq_decide.2 (show (c.toNat : Int) = 32 ↔ c = 32 from u8_iff c 32),decide_eq_decide.2 (show (c.toNat : Int) = 9 ↔ c = 9 from u8_iff c 9)]
theorem gD {l : List UInt8} {c : UInt8} {i : Nat} (hi : i < l.length) (h : c ∉ l.take i) (hc : l.getD i 0 ≠ c) : c ∉ l.take (i + 1):=by
  rw [← yE 0 hi,List.mem_append,List.mem_singleton];exact fun e=>e.elim h fun e=>hc e.symm
theorem refKey_c (s : ByteArray) (hs : s.size ≤ 1000000000) : qX Tryz.prog 109 [is s] (ib (vA s.data.toList)):=by
  have hz:=yC s;refine qW (rs:=[2]) Tryz.func109 rfl rfl rfl teOk rfl ?_;refine qB ?_;refine qI ?_;refine qB ?_;refine zai (fun h=>trivial) ?_;refine zai (fun h=>⟨⟨h,trivial⟩,trivial⟩) ?_;refine zai (fun h=>⟨⟨h,trivial⟩,trivial⟩) ?_;refine zai (by first|(intro h;rw [h];rfl)|(intro h;cases h)) ?_;refine zai (fun h=>trivial) ?_;refine zai (fun h=>⟨⟨⟨h,trivial⟩,trivial⟩,by first|omega|decide|(simp only [zds];omega)|(have h9:=of_decide_eq_true h;omega)|(simp [gq] at h;omega)⟩) ?_;refine Or.inl ?_;refine zai (rfl) ?_;refine zei _ (zai (fun h=>⟨⟨⟨h,trivial⟩,trivial⟩,dE (s.data.toList.getD 0 0) _ rfl⟩) ?_);refine zai (by first|(intro h;rw [h];rfl)|(intro h;cases h)) ?_;refine zai (fun h=>trivial) ?_;refine zai (fun h=>⟨⟨⟨h,trivial⟩,trivial⟩,by first|omega|decide|(simp only [zds];omega)|(have h9:=of_decide_eq_true h;omega)|(simp [gq] at h;omega)⟩) ?_;refine zai (fun h=>⟨⟨h,trivial⟩,trivial⟩) ?_;refine zai (by first|(intro h;rw [h];rfl)|(intro h;cases h)) ?_;refine qJ rfl (fun h21=>?_) (fun h21=>?_)
  ·try simp only [decide_eq_true_eq,Bool.or_eq_true] at h21
   try simp only [zds] at h21
   refine qB ?_;refine qM ?_;refine xH ?_;unfold vA;rcases h21 with ((h|h)|h)|h
   ·rw [decide_eq_false (show ¬ 1 ≤ s.data.toList.length by omega)];simp
   ·rw [decide_eq_false (show ¬ s.data.toList.length ≤ 32 by omega)];simp
   ·rw [h];simp
   ·rw [show s.data.toList.getD 0 0 = 35 from aY h];simp
  ·try simp only [decide_eq_false_iff_not,Bool.or_eq_false_iff,Int.not_lt] at h21
   try simp only [zds] at h21
   refine qL ?_;refine qI ?_;refine qB ?_;refine qN ?_;refine qR (fun (i : Nat)=>i ≤ s.size ∧ 58 ∉ s.data.toList.take i ∧ 10 ∉ s.data.toList.take i) (fun (i : Nat)=>[(0,is s),(3,ii .i64 i)]) (fun (i : Nat)=>[]) 0 (fun (i : Nat)=>s.size - i) 0 (⟨Nat.zero_le _,by simp,by simp⟩) (qP ⟨rfl,rfl⟩ trivial rfl) ?_;intro i hI0;obtain ⟨hi,h1,h2⟩:=hI0;refine qI ?_;refine qB ?_;refine qJ rfl (fun h25=>?_) (fun h25=>?_)
   ·try simp only [decide_eq_true_eq] at h25
    try simp only [zds] at h25
    have hlt : i < s.data.toList.length:=by omega
    refine qL ?_;refine qI ?_;refine qN ?_;refine qB ?_;refine zob ?_;refine zai (fun h=>trivial) ?_;refine zai (fun h=>trivial) ?_;refine zai (fun h=>⟨⟨⟨h,trivial⟩,⟨h,trivial⟩,trivial⟩,by first|omega|decide|(simp only [zds];omega)|(have h9:=of_decide_eq_true h;omega)|(simp [gq] at h;omega)⟩) ?_;refine zai (fun h=>⟨⟨h,trivial⟩,trivial⟩) ?_;refine zai (by first|(intro h;rw [h];rfl)|(intro h;cases h)) ?_;refine qJ rfl (fun h37=>?_) (fun h37=>?_)
    ·try simp only [decide_eq_true_eq,Bool.or_eq_true] at h37
     try simp only [Int.toNat_natCast] at h37
     refine qB ?_;refine qM ?_;refine xH ?_;unfold vA;rcases h37 with h|h
     ·rw [decide_eq_true (show 58 ∈ s.data.toList from (show s.data.toList.getD i 0 = 58 from aY h) ▸ yK hlt 0)];simp
     ·rw [decide_eq_true (show 10 ∈ s.data.toList from (show s.data.toList.getD i 0 = 10 from aY h) ▸ yK hlt 0)];simp
    ·try simp only [decide_eq_false_iff_not,Bool.or_eq_false_iff] at h37
     try simp only [Int.toNat_natCast] at h37
     have hc1 : s.data.toList.getD i 0 ≠ 58:=fun e=>h37.1 (by rw [e];rfl)
     have hc2 : s.data.toList.getD i 0 ≠ 10:=fun e=>h37.2 (by rw [e];rfl)
     refine qL ?_;refine qH ?_;refine zob ?_;exact ⟨i + 1,⟨by omega,gD hlt h1 hc1,gD hlt h2 hc2⟩,by first|omega|(simp <;> omega),qP ⟨rfl,rfl⟩ trivial rfl⟩
   ·try simp only [decide_eq_false_iff_not,Int.not_lt] at h25
    try simp only [zds] at h25
    refine qT ?_;refine qB ?_;refine qM ?_;refine xH ?_;rw [List.take_of_length_le (by omega)] at h1 h2;unfold vA;obtain ⟨⟨⟨a1,a2⟩,a3⟩,a4⟩:=h21;rw [a3,decide_eq_false h1,decide_eq_false h2,decide_eq_true (show 1 ≤ s.data.toList.length by omega),decide_eq_true (show s.data.toList.length ≤ 32 by omega),decide_eq_false (fun e : s.data.toList.getD 0 0 = 35=>a4 (by rw [show Int.toNat 0 = 0 from rfl,e];rfl))];rfl
theorem all_take_succ {α : Type} (l : List α) (p : α → Bool) (d : α) (i : Nat) (h : i < l.length) : (l.take (i + 1)).all p = ((l.take i).all p && p (l.getD i d)):=by
  rw [← yE d h,List.all_append];simp
theorem map_snoc {α β : Type} (f : α → β) {l : List α} {i : Nat} (d : α) (h : i < l.length) : (l.take i).map f ++ [f (l.getD i d)] = (l.take (i + 1)).map f:=(map_take_succ f l d i h).symm
theorem split_mem {s sep w : List UInt8} (h : w ∈ Lib.split s sep) : w.length ≤ s.length:=by
  have : Lib.split s sep = (Lib.splitB (bytes sep) 0 (Lib.countB (bytes s) (bytes sep)) (bytes s)).map ls:=by rw [eG];unfold ls;rw [yN,yN]
  rw [this] at h;obtain ⟨x,hx,rfl⟩:=List.mem_map.1 h;have:=dA _ _ _ x hx;rw [yR,yC] at this;exact this
theorem acall_arg {P : Program} {f : FuncId} {xs ys : List A} {r : A} (h : ∀ ok ρ w vs,yX ok ρ w xs vs → yX ok ρ w ys vs) (hc : qX P f ys r) : qX P f xs r :=
  ⟨hc.1,fun ok w vs hg hv=>hc.2 ok w vs hg (h _ _ _ _ hv)⟩
theorem sumF_mem {l : List Fld} {f : Fld} (h : f ∈ l) : min f.1.size 10000 + min f.2.size 10000 ≤ sumF l:=by
  induction l with
  | nil=>cases h
  | cons g l ih =>
    unfold sumF at *;rw [List.map_cons,List.sum_cons];rcases List.mem_cons.1 h with rfl|h
    · omega
    · have:=ih h;omega
theorem much_ok {l : List Fld} (h : zI l = false) : yP l:=by
  unfold zI at h;simp only [Bool.or_eq_false_iff,decide_eq_false_iff_not] at h;refine ⟨by omega,fun f hf=>?_⟩;have:=sumF_mem hf;omega
end Q
end Ab
end Go.Proofs.YtmaekcmknibmeaaGreatDoor
namespace Go.Proofs.YtmaekcmknibmeaaGreatDoor
open Go.RowKit
namespace Ab
namespace Q
theorem zE {α : Type} {p : α → Bool} : ∀ {l : List α},l.dropWhile p = [] ↔ l.all p = true
  | []=>by simp
  | a :: l=>by
    rw [List.dropWhile_cons,List.all_cons];cases h : p a
    · simp
    · simp [zE (p:=p) (l:=l)]
theorem mem_tw {α : Type} {p : α → Bool} {x : α} : ∀ {l : List α},x ∈ l.takeWhile p → p x = true
  | a :: l,h=>by
    rw [List.takeWhile_cons] at h;split at h
    · rename_i hp;rcases List.mem_cons.1 h with rfl|h
      · exact hp
      · exact mem_tw h
    · cases h
theorem trim_nil (l : List UInt8) : Lib.trimS l [32,9] = [] ↔ l.all blankC = true:=by
  have hp : (fun c : UInt8=>([32,9] : List UInt8).contains c) = blankC:=by
    funext c;unfold blankC;simp
  unfold Lib.trimS Lib.trimLeftS Lib.trimRightS;rw [show (fun x : UInt8=>([32,9] : List UInt8).contains x) = blankC from hp,zE];refine ⟨fun h=>?_,fun h=>?_⟩
  · refine List.all_eq_true.2 fun x hx=>?_
    by_cases hb : blankC x = true
    · exact hb
    · exfalso
      have h2 : x ∈ (l.reverse.dropWhile blankC):=by
        have hs : l.reverse = l.reverse.takeWhile blankC ++ l.reverse.dropWhile blankC:=(List.takeWhile_append_dropWhile).symm;have hm : x ∈ l.reverse:=List.mem_reverse.2 hx;rw [hs] at hm;rcases List.mem_append.1 hm with h3|h3
        · exact absurd (mem_tw h3) hb
        · exact h3
      exact hb (List.all_eq_true.1 h x (List.mem_reverse.2 h2))
  · have : l.reverse.dropWhile blankC = []:=zE.2 (by rw [List.all_reverse];exact h);rw [this];rfl
def kO (s : List UInt8) : List UInt8:=if s.all blankC || Lib.hasPrefix s [46] then 46 :: s else s
def xB (v : List UInt8) : List (List UInt8):=Lib.split v [10]
def gI (key : List UInt8) (p : List UInt8) : List UInt8:=key ++ [58] ++ (if p = [] then [] else 32 :: p)
def jO (key v : List UInt8) : List (List UInt8):=gI key ((xB v).headD []) :: ((xB v).drop 1).map fun s=>32 :: kO s
def yJ (l : List UInt8) : Int:=if 10 ∈ l then 5 else if l.all blankC = true then 1 else if Lib.hasPrefix l [35] = true then 2 else if aR l = true then 3
  else if ((Lib.cut l [58]).2.2 && vA (Lib.cut l [58]).1) = true then 4 else 5
theorem eF (v : List UInt8) (sep : List UInt8) : Lib.split v sep ≠ []:=by
  unfold Lib.split;cases Lib.count v sep with
  | zero=>simp [Lib.splitK]
  | succ k=>unfold Lib.splitK;split <;> simp
theorem splitK_one (v : List UInt8) (c : UInt8) : ∀ k,v.length ≤ k → (∀ p ∈ Lib.split v [c],c ∉ p) ∧ Lib.join (Lib.split v [c]) [c] = v:=by
  intro k
  induction k generalizing v with
  | zero =>
    intro h;obtain rfl : v = []:=List.eq_nil_of_length_eq_zero (by omega);exact ⟨fun p hp=>by
      have : p = []:=by simpa [Lib.split,Lib.count,Lib.countFrom,Lib.index,Lib.splitK] using hp
      rw [this];simp,by simp [Lib.split,Lib.count,Lib.countFrom,Lib.index,Lib.splitK,Lib.join_one]⟩
  | succ k ih =>
    intro h;rcases Lib.index_spec v [c] with ⟨hi,hn⟩|⟨i,hi,hil,ho,hno⟩
    · have e : Lib.split v [c] = [v]:=by unfold Lib.split;rw [Lib.count_miss hi];rfl
      rw [e];refine ⟨fun p hp hc=>?_,Lib.join_one _ _⟩;rw [List.mem_singleton.1 hp] at hc;obtain ⟨j,hj,e⟩:=List.getElem_of_mem hc;have:=hn j (Nat.le_of_lt hj);rw [(gQ v c j).2 (by rw [List.getElem?_eq_getElem hj,e])] at this;cases this
    · have hat:=(gQ v c i).1 ho;obtain ⟨hlt,hat⟩:=List.getElem?_eq_some_iff.1 hat;have e : Lib.split v [c] = v.take i :: Lib.split (v.drop (i + 1)) [c]:=by
        unfold Lib.split;rw [Lib.count_hit (by simp) hi,Nat.add_comm,Lib.splitK,hi,if_neg (by intro e;have:=beq_iff_eq.1 e;omega),Int.toNat_natCast];rfl
      obtain ⟨h1,h2⟩:=ih (v.drop (i + 1)) (by rw [List.length_drop];omega);rw [e];refine ⟨fun p hp=>?_,?_⟩
      · rcases List.mem_cons.1 hp with rfl|hp
        · intro hc;obtain ⟨j,hj,e⟩:=List.getElem_of_mem hc;rw [List.length_take] at hj;have:=hno j (by omega);rw [(gQ v c j).2 (by rw [List.getElem?_eq_getElem (by omega)];rw [List.getElem_take] at e;rw [e])] at this;cases this
        · exact h1 p hp
      · obtain ⟨q,qs,eq⟩ : ∃ q qs,Lib.split (v.drop (i + 1)) [c] = q :: qs:=by
          cases e2 : Lib.split (v.drop (i + 1)) [c] with
          | nil=>exact absurd e2 (eF _ _)
          | cons q qs=>exact ⟨q,qs,rfl⟩
        rw [eq] at h2 ⊢;rw [vI,h2,List.append_assoc];have:=List.take_append_drop i v;rw [List.drop_eq_getElem_cons hlt,hat] at this;exact this
theorem parts_no (v : List UInt8) : ∀ p ∈ xB v,10 ∉ p:=(splitK_one v 10 _ (Nat.le_refl _)).1
theorem parts_join (v : List UInt8) : Lib.join (xB v) [10] = v:=(splitK_one v 10 _ (Nat.le_refl _)).2
theorem cut_at {key r : List UInt8} {c : UInt8} (h : c ∉ key) : Lib.cut (key ++ c :: r) [c] = (key,r,true):=by
  have hi : Lib.index (key ++ c :: r) [c] = key.length:=by
    refine Lib.index_first (by simp) ((gQ _ _ _).2 (by simp)) fun j hj=>Bool.eq_false_iff.2 fun e=>?_
    have:=(gQ _ _ _).1 e;rw [List.getElem?_append_left hj] at this;exact h (List.mem_of_getElem? this)
  unfold Lib.cut;rw [hi,if_pos (by omega),Int.toNat_natCast,List.take_left];show (key,List.drop (key.length + 1) (key ++ c :: r),true) = _;rw [← List.drop_drop,List.drop_left];rfl
def kN (l0 : List UInt8) (rest : List (List UInt8)) : List UInt8:=Lib.join (Lib.trimPrefix (Lib.cut l0 [58]).2.1 [32] :: rest.map fun s=>Lib.trimPrefix (s.drop 1) [46]) [10]
def yU : List (List UInt8) → (List UInt8 × List UInt8) × Int
  | []=>(([],[]),2)
  | l0 :: rest=>if yJ l0 ≠ 4 ∨ (rest.any fun s=>!decide (yJ s = 3)) = true then (([],[]),2) else if 1000 < (kN l0 rest).length then (([],[]),6) else (((Lib.cut l0 [58]).1,kN l0 rest),0)
end Q
end Ab
end Go.Proofs.YtmaekcmknibmeaaGreatDoor
namespace Go.Proofs.YtmaekcmknibmeaaGreatDoor
open Go.RowKit
namespace Ab
set_option maxRecDepth 100000
namespace Q
def xD (f : Fld) : Int:=if vA f.1.data.toList = true then (if 1000 < f.2.size then 6 else 0) else 5
def errN (n : Int) : C:=.lit (.iface 107 (.int .i64 n))
def errA (n : Int) : C:=if n = 0 then .lit .nilIface else errN n
theorem errA_eq {n m : Int} (h : n = m) : A.one (errA n) = A.one (errA m):=by rw [h]
theorem check_c (f : Fld) (hk : f.1.size ≤ 1000000000) : qX Tryz.prog 118 [.agg (toL rFld f)] (.one (errA (xD f))):=by
  refine qW (rs:=[2]) Tryz.func118 rfl rfl rfl teOk rfl ?_;refine qB ?_;refine qI ?_;refine qN ?_;refine qB ?_;refine Or.inl ?_;refine zai (rfl) ?_;refine zei _ (zai (key_c _ hk) ?_);refine qJ rfl (fun h3=>?_) (fun h3=>?_)
  ·try simp only [Bool.not_eq_true'] at h3
   try simp only [zds] at h3
   refine qB ?_;refine qM ?_;exact errA_eq (n:=5) (by unfold xD;rw [if_neg (by rw [h3];decide)])
  ·try simp only [Bool.not_eq_false'] at h3
   try simp only [zds] at h3
   refine qB ?_;refine qJ rfl (fun h9=>?_) (fun h9=>?_)
   ·try simp only [decide_eq_true_eq] at h9
    try simp only [zds] at h9
    refine qB ?_;refine qM ?_;exact errA_eq (n:=6) (by unfold xD;rw [if_pos h3,if_pos (by omega)])
   ·try simp only [decide_eq_false_iff_not,Int.not_lt] at h9
    try simp only [zds] at h9
    refine qL ?_;refine qB ?_;refine qM ?_;exact errA_eq (n:=0) (by unfold xD;rw [if_pos h3,if_neg (by omega)])
theorem bW (f : Fld) : xD f = 5 ∨ xD f = 6 ∨ xD f = 0:=by
  unfold xD;split <;> (try split) <;> simp
theorem gY (f : Fld) (n : Int) (hk : f.1.size ≤ 1000000000) (h : xD f = n) : qX Tryz.prog 118 [.agg (toL rFld f)] (.one (errA n)):=by
  subst h;exact check_c f hk
theorem stuffed_c (s : ByteArray) (hs : s.size ≤ 1000000) : qX Tryz.prog 138 [is s] (is (bytes (kO s.data.toList))):=by
  have hz:=yC s;have he : (⟨(Lib.trimS s.data.toList [32,9]).toArray⟩ : ByteArray) = ⟨#[]⟩ ↔ s.data.toList.all blankC = true:=by
    rw [emp,← trim_nil];show (bytes (Lib.trimS s.data.toList [32,9])).data.toList.length = 0 ↔ _;rw [yN];exact ⟨List.eq_nil_of_length_eq_zero,fun h=>by rw [h];rfl⟩
  refine qW (rs:=[2]) Tryz.func138 rfl rfl rfl teOk rfl ?_;refine qB ?_;refine qI ?_;refine qB ?_;refine Or.inl ?_;refine zai (rfl) ?_;refine zei _ (zai (trimS_c _ _ (by decide) (by decide) (by omega)) ?_);refine zai (fun h=>trivial) ?_;refine Or.inl ?_;refine zai (rfl) ?_;refine zei _ (zai (fun h=>⟨⟨⟨h,trivial⟩,trivial⟩,gV _ _⟩) ?_);refine zai (by first|(intro h;rw [h];rfl)|(intro h;cases h)) ?_;refine qJ rfl (fun h9=>?_) (fun h9=>?_)
  ·try simp only [decide_eq_true_eq,Bool.or_eq_true] at h9
   try simp only [zds] at h9
   have hq : (s.data.toList.all blankC || Lib.hasPrefix s.data.toList [46]) = true:=by rw [Bool.or_eq_true];exact h9.imp he.1 id
   refine qB ?_;refine zai (by (have hk0 : ByteArray.size { data:=#[46] } = 1:=rfl;first|(unfold maxLen;omega)|(simp only [ByteArray.size_append];omega)|(unfold maxLen;(try simp only [ByteArray.size_append]);omega))) ?_;refine qM ?_;refine gU ?_;unfold kO;rw [if_pos hq,show (46 :: s.data.toList) = [46] ++ s.data.toList from rfl,xS,show bytes s.data.toList = s from kA s];rfl
  ·try simp only [decide_eq_false_iff_not,Bool.or_eq_false_iff] at h9
   try simp only [zds] at h9
   have hq : ¬ (s.data.toList.all blankC || Lib.hasPrefix s.data.toList [46]) = true:=by rw [Bool.or_eq_true];exact fun e=>e.elim (fun e=>h9.1 (he.2 e)) (fun e=>by rw [h9.2] at e;cases e)
   refine qL ?_;refine qB ?_;refine qM ?_;refine gU ?_;unfold kO;rw [if_neg hq];exact (kA s).symm
theorem cut_v (s p : ByteArray) (l : List UInt8) (c : List UInt8 × List UInt8 × Bool) (hl : p.data.toList = l) (hc : Lib.cut s.data.toList l = c) (hs : s.size < 4294967281) : qX Tryz.prog 77 [is s,is p] (.tup [(false,[.lit (.string (bytes c.1))]),(false,[.lit (.string (bytes c.2.1))]),(false,[.lit (.bool c.2.2)])]):=by
  subst hl hc;exact cut_c s p hs
theorem fA (l sep : List UInt8) : (Lib.cut l sep).1.length ≤ l.length ∧ (Lib.cut l sep).2.1.length ≤ l.length:=by
  unfold Lib.cut;split
  · simp only [List.length_take,List.length_drop];omega
  · exact ⟨Nat.le_refl _,Nat.zero_le _⟩
theorem dJ (s : ByteArray) (hs : s.size ≤ 1000000000) : qX Tryz.prog 78 [is s] (ii .i64 (yJ s.data.toList)):=by
  have hz:=yC s;obtain ⟨c,hc⟩ : ∃ c,Lib.cut s.data.toList [58] = c:=⟨_,rfl⟩;have hcl : (bytes c.1).size ≤ 1000000000:=by rw [yR,← hc];have:=(fA s.data.toList [58]).1;omega
  have he : (⟨(Lib.trimS s.data.toList [32,9]).toArray⟩ : ByteArray) = ⟨#[]⟩ ↔ s.data.toList.all blankC = true:=by
    rw [emp,← trim_nil];show (bytes (Lib.trimS s.data.toList [32,9])).data.toList.length = 0 ↔ _;rw [yN];exact ⟨List.eq_nil_of_length_eq_zero,fun h=>by rw [h];rfl⟩
  have hcon : Lib.contains s.data.toList [10] = decide (10 ∈ s.data.toList):=wP _ _;refine qW (rs:=[2]) Tryz.func78 rfl rfl rfl teOk rfl ?_;refine qB ?_;refine qI ?_;refine qN ?_;refine qB ?_;refine Or.inl ?_;refine zai (rfl) ?_;refine zei _ (zai (gJ _ _ (by omega)) ?_);refine qJ rfl (fun h6=>?_) (fun h6=>?_)
  ·skip
   have hm : 10 ∈ s.data.toList:=of_decide_eq_true (hcon ▸ h6);refine qB ?_;refine qM ?_;refine qS ?_;unfold yJ;rw [if_pos hm]
  ·skip
   have hm : 10 ∉ s.data.toList:=of_decide_eq_false (hcon ▸ h6);refine qB ?_;refine Or.inl ?_;refine zai (rfl) ?_;refine zei _ (zai (trimS_c _ _ (by decide) (by decide) (by omega)) ?_);refine qJ rfl (fun h9=>?_) (fun h9=>?_)
   ·try simp only [decide_eq_true_eq] at h9
    try simp only [zds] at h9
    rw [he] at h9;refine qB ?_;refine qM ?_;refine qS ?_;unfold yJ;rw [if_neg hm,if_pos h9]
   ·try simp only [decide_eq_false_iff_not] at h9
    try simp only [zds] at h9
    rw [he] at h9;refine qB ?_;refine Or.inl ?_;refine zai (rfl) ?_;refine zei _ (zai (gV _ _) ?_);refine qJ rfl (fun h13=>?_) (fun h13=>?_)
    ·skip
     refine qB ?_;refine qM ?_;refine qS ?_;unfold yJ;rw [if_neg hm,if_neg h9,if_pos h13]
    ·skip
     refine qB ?_;refine Or.inl ?_;refine zai (rfl) ?_;refine zei _ (zai (blank_c _ hs) ?_);refine qJ rfl (fun h16=>?_) (fun h16=>?_)
     ·try simp only [zbq] at h16
      try simp only [zds] at h16
      refine qB ?_;refine qM ?_;refine qS ?_;unfold yJ;rw [if_neg hm,if_neg h9,if_neg (by rw [Bool.not_eq_true];exact h13),if_pos h16]
     ·try simp only [zbq] at h16
      try simp only [zds] at h16
      refine qL ?_;refine qI ?_;refine qB ?_;refine Or.inl ?_;refine zai (rfl) ?_;refine zei _ (zai (cut_v _ _ [58] c rfl hc (by omega)) ?_);refine qB ?_;refine zai (fun h=>trivial) ?_;refine Or.inl ?_;refine zai (rfl) ?_;refine zei _ (zai (fun h=>⟨⟨⟨h,trivial⟩,trivial⟩,key_c _ hcl⟩) ?_);refine zai (by exact fun h=>h) ?_;refine qJ rfl (fun h29=>?_) (fun h29=>?_)
      ·try simp only [Bool.and_eq_true] at h29
       try simp only [zds] at h29
       refine qB ?_;refine qM ?_;refine qS ?_;unfold yJ;rw [if_neg hm,if_neg h9,if_neg (by rw [Bool.not_eq_true];exact h13),if_neg (by rw [Bool.not_eq_true];exact h16),hc,if_pos (by rw [Bool.and_eq_true];rw [yN] at h29;exact h29)]
      ·try simp only [Bool.and_eq_false_iff] at h29
       try simp only [zds] at h29
       refine qL ?_;refine qB ?_;refine qM ?_;refine qS ?_;unfold yJ;rw [if_neg hm,if_neg h9,if_neg (by rw [Bool.not_eq_true];exact h13),if_neg (by rw [Bool.not_eq_true];exact h16),hc,if_neg (by rw [Bool.not_eq_true,Bool.and_eq_false_iff];rw [yN] at h29;exact h29)]
def cutL (l : List UInt8) : List UInt8 × List UInt8 × Bool:=if yJ l = 4 then Lib.cut l [58] else ([],[],false)
def cutA (c : List UInt8 × List UInt8 × Bool) : A:=.tup [(false,[.lit (.string (bytes c.1))]),(false,[.lit (.string (bytes c.2.1))]),(false,[.lit (.bool c.2.2)])]
theorem fB {c c' : List UInt8 × List UInt8 × Bool} (h : c = c') : cutA c = cutA c':=by rw [h]
theorem lcut_c (s : ByteArray) (hs : s.size ≤ 1000000000) : qX Tryz.prog 131 [is s] (cutA (cutL s.data.toList)):=by
  refine qW (rs:=[2,3,4]) Tryz.func131 rfl rfl rfl teOk rfl ?_;refine qB ?_;refine qI ?_;refine qB ?_;refine Or.inl ?_;refine zai (rfl) ?_;refine zei _ (zai (dJ s hs) ?_);refine qJ rfl (fun h7=>?_) (fun h7=>?_)
  ·try simp only [decide_eq_false_iff_not,Bool.not_eq_true'] at h7
   try simp only [zds] at h7
   refine qB ?_;refine qM ?_;exact fB (c:=([],[],false)) (by unfold cutL;rw [if_neg h7])
  ·try simp only [decide_eq_true_eq,Bool.not_eq_false'] at h7
   try simp only [zds] at h7
   refine qL ?_;refine qB ?_;refine Or.inl ?_;refine zai (rfl) ?_;refine zei _ (zai (cut_v _ _ [58] _ rfl rfl (by omega)) ?_);refine qM ?_;exact fB (c:=Lib.cut s.data.toList [58]) (by unfold cutL;rw [if_pos h7])
theorem refCheck_c (f : Fld) (hk : f.1.size ≤ 1000000000) : qX Tryz.prog 94 [.agg (toL rFld f)] (ii .i64 (xD f)):=by
  refine qW (rs:=[2]) Tryz.func94 rfl rfl rfl teOk rfl ?_;refine qB ?_;refine qI ?_;refine qB ?_;refine Or.inl ?_;refine zai (rfl) ?_;refine zei _ (zai (refKey_c _ hk) ?_);refine qJ rfl (fun h6=>?_) (fun h6=>?_)
  ·try simp only [Bool.not_eq_true'] at h6
   try simp only [zds] at h6
   refine qB ?_;refine qM ?_;refine qS ?_;unfold xD;rw [if_neg (by rw [h6];decide)]
  ·try simp only [Bool.not_eq_false'] at h6
   try simp only [zds] at h6
   refine qL ?_;refine qI ?_;refine qB ?_;refine qJ rfl (fun h10=>?_) (fun h10=>?_)
   ·try simp only [decide_eq_true_eq] at h10
    try simp only [zds] at h10
    refine qB ?_;refine qM ?_;refine qS ?_;unfold xD;rw [if_pos h6,if_pos (by omega)]
   ·try simp only [decide_eq_false_iff_not,Int.not_lt] at h10
    try simp only [zds] at h10
    refine qL ?_;refine qB ?_;refine qM ?_;refine qS ?_;unfold xD;rw [if_pos h6,if_neg (by omega)]
def vH (l : List UInt8) : List UInt8 × List UInt8 × Bool:=if 10 ∈ l then ([],[],false) else if ((Lib.cut l [58]).2.2 && vA (Lib.cut l [58]).1) = true then Lib.cut l [58] else ([],[],false)
theorem cut_first {l : List UInt8} {c : UInt8} {i : Nat} (hi : i < l.length) (hc : l.getD i 0 = c) (hn : c ∉ l.take i) : Lib.cut l [c] = (l.take i,l.drop (i + 1),true):=by
  have : l = l.take i ++ c :: l.drop (i + 1):=by
    conv=>lhs;rw [← List.take_append_drop i l,drop_cons hi,hc]
  conv=>lhs;rw [this]
  exact cut_at hn
theorem bT {l : List UInt8} {c : UInt8} (h : c ∉ l) : Lib.cut l [c] = (l,[],false):=by
  have hi : Lib.index l [c] = -1:=Lib.index_none fun j _=>Bool.eq_false_iff.2 fun e=>h (List.mem_of_getElem? ((gQ _ _ _).1 e))
  unfold Lib.cut;rw [hi,if_neg (by omega)]
theorem refKey_v (s : ByteArray) (l : List UInt8) (hl : s.data.toList = l) (hs : l.length ≤ 1000000000) : qX Tryz.prog 109 [is s] (ib (vA l)):=by
  subst hl;exact refKey_c s (by rw [yC];exact hs)
theorem tup3_eq {a a' b b' : ByteArray} {c : Bool} (h1 : a = a') (h2 : b = b') : A.tup [(false,[.lit (.string a)]),(false,[.lit (.string b)]),(false,[.lit (.bool c)])] = A.tup [(false,[.lit (.string a')]),(false,[.lit (.string b')]),(false,[.lit (.bool c)])]:=by rw [h1,h2]
theorem refCut_c (s : ByteArray) (hs : s.size ≤ 1000000000) : qX Tryz.prog 85 [is s] (cutA (vH s.data.toList)):=by
  have hz:=yC s;refine qW (rs:=[2,3,4]) Tryz.func85 rfl rfl rfl teOk rfl ?_;refine qB ?_;refine qI ?_;refine qB ?_;refine qN ?_;refine qR (fun (i : Nat)=>i ≤ s.size ∧ 10 ∉ s.data.toList.take i) (fun (i : Nat)=>[(0,is s),(5,ii .i64 i)]) (fun (i : Nat)=>[]) 0 (fun (i : Nat)=>s.size - i) 0 (⟨Nat.zero_le _,by simp⟩) (qP ⟨rfl,rfl⟩ trivial rfl) ?_;intro i hI0;obtain ⟨hi,h1⟩:=hI0;refine qI ?_;refine qB ?_;refine qJ rfl (fun h10=>?_) (fun h10=>?_)
  ·try simp only [decide_eq_true_eq] at h10
   try simp only [zds] at h10
   have hlt : i < s.data.toList.length:=by omega
   refine qL ?_;refine qI ?_;refine qN ?_;refine qB ?_;refine zob ?_;refine qJ rfl (fun h16=>?_) (fun h16=>?_)
   ·try simp only [decide_eq_true_eq] at h16
    try simp only [Int.toNat_natCast] at h16
    have hm : 10 ∈ s.data.toList:=(show s.data.toList.getD i 0 = 10 from aY h16) ▸ yK hlt 0;refine qB ?_;refine qM ?_;exact fB (c:=([],[],false)) (by unfold vH;rw [if_pos hm])
   ·try simp only [decide_eq_false_iff_not] at h16
    try simp only [Int.toNat_natCast] at h16
    have hne : s.data.toList.getD i 0 ≠ 10:=fun e=>h16 (by rw [e];rfl)
    refine qL ?_;refine qH ?_;refine zob ?_;exact ⟨i + 1,⟨by omega,gD hlt h1 hne⟩,by first|omega|(simp <;> omega),qP ⟨rfl,(qS (by omega))⟩ trivial rfl⟩
  ·try simp only [decide_eq_false_iff_not,Int.not_lt] at h10
   try simp only [zds] at h10
   rw [List.take_of_length_le (by omega)] at h1;refine qT ?_;refine qI ?_;refine qB ?_;refine qN ?_;refine qR (fun (k : Nat)=>k ≤ s.size ∧ 58 ∉ s.data.toList.take k) (fun (k : Nat)=>[(0,is s),(6,ii .i64 k)]) (fun (k : Nat)=>[]) 0 (fun (k : Nat)=>s.size - k) 0 (⟨Nat.zero_le _,by simp⟩) (qP ⟨rfl,rfl⟩ trivial rfl) ?_;intro k hI2;obtain ⟨hk,h2⟩:=hI2;refine qI ?_;refine qB ?_;refine qJ rfl (fun h20=>?_) (fun h20=>?_)
   ·try simp only [decide_eq_true_eq] at h20
    try simp only [zds] at h20
    have hlt2 : k < s.data.toList.length:=by omega
    refine qL ?_;refine qI ?_;refine qN ?_;refine qB ?_;refine zob ?_;refine qJ rfl (fun h26=>?_) (fun h26=>?_)
    ·try simp only [decide_eq_true_eq] at h26
     try simp only [Int.toNat_natCast] at h26
     have hcut:=cut_first hlt2 (show s.data.toList.getD k 0 = 58 from aY h26) h2;refine qI ?_;refine qB ?_;refine zob ?_;refine Or.inl ?_;refine zai (rfl) ?_;refine zei _ (zai (refKey_v _ (s.data.toList.take k) (by rw [uW,Int.toNat_natCast];simp) (by rw [List.length_take];omega)) ?_);refine qJ rfl (fun h31=>?_) (fun h31=>?_)
     ·try simp only [Bool.not_eq_true'] at h31
      try simp only [zds] at h31
      refine qB ?_;refine qM ?_;exact fB (c:=([],[],false)) (by unfold vH;rw [if_neg h1,hcut,if_neg (by simp only [Bool.true_and];rw [h31];decide)])
     ·try simp only [Bool.not_eq_false'] at h31
      try simp only [zds] at h31
      refine qL ?_;refine qI ?_;refine kF rfl (by kernel_rfl) ?_;refine zob ?_;refine zob ?_;refine zob ?_;refine qM ?_;rw [show vH s.data.toList = (s.data.toList.take k,s.data.toList.drop (k + 1),true) by unfold vH;rw [if_neg h1,hcut,if_pos (by simp only [Bool.true_and];exact h31)]];exact tup3_eq (ls_inj (by unfold ls;rw [uW,Int.toNat_natCast];simp)) (ls_inj (by unfold ls;rw [uW,show ((k : Int) + 1).toNat = k + 1 by omega,List.take_of_length_le (by rw [List.length_drop];omega)]))
    ·try simp only [decide_eq_false_iff_not] at h26
     try simp only [Int.toNat_natCast] at h26
     have hne2 : s.data.toList.getD k 0 ≠ 58:=fun e=>h26 (by rw [e];rfl)
     refine qL ?_;refine qH ?_;refine zob ?_;exact ⟨k + 1,⟨by omega,gD hlt2 h2 hne2⟩,by first|omega|(simp <;> omega),qP ⟨rfl,(qS (by omega))⟩ trivial rfl⟩
   ·try simp only [decide_eq_false_iff_not,Int.not_lt] at h20
    try simp only [zds] at h20
    refine qT ?_;refine qB ?_;refine qM ?_;exact fB (c:=([],[],false)) (by unfold vH;rw [if_neg h1,bT (by rw [List.take_of_length_le (by omega)] at h2;exact h2),if_neg (by simp)])
theorem refCut_v (s : ByteArray) (c : List UInt8 × List UInt8 × Bool) (hc : vH s.data.toList = c) (hs : s.size ≤ 1000000000) : qX Tryz.prog 85 [is s] (cutA c):=by
  subst hc;exact refCut_c s hs
theorem cM {l : List UInt8} (h1 : 10 ∉ l) (hb : l.all blankC = false) : yJ l = if l.getD 0 0 = 35 then 2 else if blankC (l.getD 0 0) = true then 3 else if (vH l).2.2 = true then 4 else 5:=by
  cases l with
  | nil=>cases hb
  | cons c r =>
    have e : (vH (c :: r)).2.2 = ((Lib.cut (c :: r) [58]).2.2 && vA (Lib.cut (c :: r) [58]).1):=by
      unfold vH;rw [if_neg h1];split
      · rename_i h;rw [h];simp only [Bool.and_eq_true] at h;exact h.1
      · rename_i h;exact (Bool.not_eq_true _ ▸ h : _ = false).symm
    unfold yJ;rw [if_neg h1,if_neg (by rw [hb];decide),jT,e];simp [aR]
theorem cF (s : ByteArray) (hs : s.size ≤ 1000000000) : qX Tryz.prog 51 [is s] (ii .i64 (yJ s.data.toList)):=by
  have hz:=yC s;refine qW (rs:=[2]) Tryz.func51 rfl rfl rfl teOk rfl ?_;refine qB ?_;refine qB ?_;refine qI ?_;refine qB ?_;refine qN ?_;refine qR (fun (i : Nat)=>i ≤ s.size ∧ 10 ∉ s.data.toList.take i) (fun (i : Nat)=>[(0,is s),(3,ib ((s.data.toList.take i).all blankC)),(4,ii .i64 i)]) (fun (i : Nat)=>[]) 0 (fun (i : Nat)=>s.size - i) 0 (⟨Nat.zero_le _,by simp⟩) (qP ⟨rfl,rfl,rfl⟩ trivial rfl) ?_;intro i hI0;obtain ⟨hi,h1⟩:=hI0;refine qI ?_;refine qB ?_;refine qJ rfl (fun h11=>?_) (fun h11=>?_)
  ·try simp only [decide_eq_true_eq] at h11
   try simp only [zds] at h11
   have hlt : i < s.data.toList.length:=by omega
   refine qL ?_;refine qI ?_;refine qN ?_;refine qI ?_;refine qB ?_;refine zob ?_;refine qJ rfl (fun h17=>?_) (fun h17=>?_)
   ·try simp only [decide_eq_true_eq] at h17
    try simp only [Int.toNat_natCast] at h17
    have hm : 10 ∈ s.data.toList:=(show s.data.toList.getD i 0 = 10 from aY h17) ▸ yK hlt 0;refine qB ?_;refine qM ?_;refine qS ?_;unfold yJ;rw [if_pos hm]
   ·try simp only [decide_eq_false_iff_not] at h17
    try simp only [Int.toNat_natCast] at h17
    have hne : s.data.toList.getD i 0 ≠ 10:=fun e=>h17 (by rw [e];rfl)
    refine qL ?_;refine qH ?_;refine zai (fun h=>trivial) ?_;refine zai (fun h=>trivial) ?_;refine zai (fun h=>⟨⟨⟨h,trivial⟩,⟨h,trivial⟩,trivial⟩,by first|omega|decide|(simp only [zds];omega)|(have h9:=of_decide_eq_true h;omega)|(simp [gq] at h;omega)⟩) ?_;refine Or.inl ?_;refine zai (rfl) ?_;refine zei _ (zai (fun h=>⟨⟨⟨h,trivial⟩,trivial⟩,dE (s.data.toList.getD i 0) _ rfl⟩) ?_);refine zai (by exact fun h=>h) ?_;refine qH ?_;refine zob ?_;exact ⟨i + 1,⟨by omega,gD hlt h1 hne⟩,by first|omega|(simp <;> omega),qP ⟨rfl,(xH (all_take_succ s.data.toList blankC 0 i hlt).symm),(qS (by omega))⟩ trivial rfl⟩
  ·try simp only [decide_eq_false_iff_not,Int.not_lt] at h11
   try simp only [zds] at h11
   rw [List.take_of_length_le (by omega)] at h1 ⊢;refine qT ?_;refine qI ?_;refine qB ?_;refine qJ rfl (fun h25=>?_) (fun h25=>?_)
   ·try simp only [zbq] at h25
    try simp only [zds] at h25
    refine qB ?_;refine qM ?_;refine qS ?_;unfold yJ;rw [if_neg h1,if_pos h25]
   ·try simp only [zbq] at h25
    try simp only [zds] at h25
    have hpos : 0 < s.data.toList.length:=Nat.pos_of_ne_zero fun h=>by rw [List.eq_nil_of_length_eq_zero h] at h25;cases h25
    refine qL ?_;refine qI ?_;refine qB ?_;refine zob ?_;refine qJ rfl (fun h28=>?_) (fun h28=>?_)
    ·try simp only [decide_eq_true_eq] at h28
     try simp only [zds] at h28
     refine qB ?_;refine qM ?_;refine qS ?_;rw [cM h1 h25,if_pos (aY h28)]
    ·try simp only [decide_eq_false_iff_not] at h28
     try simp only [zds] at h28
     refine qL ?_;refine qI ?_;refine qB ?_;refine zob ?_;refine Or.inl ?_;refine zai (rfl) ?_;refine zei _ (zai (dE (s.data.toList.getD 0 0) _ rfl) ?_);refine qJ rfl (fun h31=>?_) (fun h31=>?_)
     ·try simp only [zbq] at h31
      try simp only [zds] at h31
      refine qB ?_;refine qM ?_;refine qS ?_;rw [cM h1 h25,if_neg (fun e=>h28 (by rw [show s.data.toList.getD (Int.toNat 0) 0 = 35 from e];rfl)),if_pos h31]
     ·try simp only [zbq] at h31
      try simp only [zds] at h31
      refine qL ?_;refine qI ?_;refine qB ?_;refine Or.inl ?_;refine zai (rfl) ?_;refine zei _ (zai (refCut_v s _ rfl hs) ?_);refine qB ?_;refine qJ rfl (fun h38=>?_) (fun h38=>?_)
      ·try simp only [zbq] at h38
       try simp only [zds] at h38
       refine qB ?_;refine qM ?_;refine qS ?_;rw [cM h1 h25,if_neg (fun e=>h28 (by rw [show s.data.toList.getD (Int.toNat 0) 0 = 35 from e];rfl)),if_neg (by rw [h31];decide),if_pos h38]
      ·try simp only [zbq] at h38
       try simp only [zds] at h38
       refine qL ?_;refine qB ?_;refine qM ?_;refine qS ?_;rw [cM h1 h25,if_neg (fun e=>h28 (by rw [show s.data.toList.getD (Int.toNat 0) 0 = 35 from e];rfl)),if_neg (by rw [h31];decide),if_neg (by rw [h38];decide)]
def jE (key v : ByteArray) : List ByteArray:=(jO key.data.toList v.data.toList).map bytes
theorem fF {f : Fld} (h : xD f = 0) : vA f.1.data.toList = true ∧ f.2.size ≤ 1000 ∧ f.1.size ≤ 32:=by
  unfold xD at h;split at h
  · rename_i hk;split at h
    · cases h
    · refine ⟨hk,by omega,?_⟩;have:=hk;unfold vA at this;simp only [Bool.and_eq_true,decide_eq_true_eq] at this;rw [yC];exact this.1.1.1.1.2
  · cases h
theorem stuff_len (s : List UInt8) : (kO s).length ≤ s.length + 1:=by
  unfold kO;split <;> simp
def linesA (f : Fld) : A:=if xD f = 0 then .tup [(false,[.sl .str (jE f.1 f.2)]),(false,[.lit .nilIface])] else .tup [(false,[.sl .str []]),(false,[errN (xD f)])]
theorem aI {f : Fld} {n : Int} (h : xD f = n) (hn : n ≠ 0) : linesA f = .tup [(false,[.sl .str []]),(false,[errN n])]:=by
  unfold linesA;rw [if_neg (by rw [h];exact hn),h]
theorem linesA_ok {f : Fld} (h : xD f = 0) : linesA f = .tup [(false,[.sl .str (jE f.1 f.2)]),(false,[.lit .nilIface])]:=by
  unfold linesA;rw [if_pos h]
theorem stuffed_v (s : ByteArray) (l : List UInt8) (hl : s.data.toList = l) (hs : l.length ≤ 1000000) : qX Tryz.prog 138 [is s] (is (bytes (kO l))):=by
  subst hl;exact stuffed_c s (by rw [yC];exact hs)
theorem first_b (k p : ByteArray) (h : ¬ p = ⟨#[]⟩) : (k ++ (⟨#[58]⟩ : ByteArray)) ++ ((⟨#[32]⟩ : ByteArray) ++ p) = bytes (gI k.data.toList p.data.toList):=by
  have hp : p.data.toList ≠ []:=fun e=>h (emp.2 (by rw [e];rfl))
  unfold gI;rw [if_neg hp,xS,xS,show (32 :: p.data.toList) = [32] ++ p.data.toList from rfl,xS,show bytes k.data.toList = k from kA k,show bytes p.data.toList = p from kA p];rfl
theorem first_e (k p : ByteArray) (h : p = ⟨#[]⟩) : k ++ (⟨#[58]⟩ : ByteArray) = bytes (gI k.data.toList p.data.toList):=by
  have hp : p.data.toList = []:=by rw [h]
  unfold gI;rw [if_pos hp,List.append_nil,xS,show bytes k.data.toList = k from kA k];rfl
theorem tupS_eq {xs ys : List ByteArray} (h : xs = ys) : A.tup [(false,[.sl .str xs]),(false,[.lit .nilIface])] = A.tup [(false,[.sl .str ys]),(false,[.lit .nilIface])]:=by rw [h]
theorem lineB_eq {key v : ByteArray} {ws : List ByteArray} (hsp : ws.map ls = xB v.data.toList) (hpos : 0 < ws.length) : bytes (gI key.data.toList (ws.getD 0 ByteArray.empty).data.toList) :: (ws.drop 1).map (fun s=>bytes (32 :: kO s.data.toList)) = jE key v:=by
  unfold jE jO;rw [← hsp];cases ws with
  | nil=>cases hpos
  | cons w r=>simp [ls]
theorem lines_c (f : Fld) (hk : f.1.size ≤ 1000000) (hv : f.2.size ≤ 1000000) : qX Tryz.prog 119 [.agg (toL rFld f)] (linesA f):=by
  obtain ⟨ws,hws⟩ : ∃ ws,Lib.splitB ⟨#[10]⟩ 0 (Lib.countB f.2 ⟨#[10]⟩) f.2 = ws:=⟨_,rfl⟩;have hsz : ∀ x ∈ ws,x.size ≤ 1000000:=fun x hx=>Nat.le_trans (dA _ _ _ x (hws ▸ hx)) hv
  have hlen : ws.length ≤ f.2.size + 1:=by rw [← hws];exact fR _ _ (by decide)
  have hsp : ws.map ls = xB f.2.data.toList:=by rw [← hws];exact eG _ _
  have hpos : 0 < ws.length:=by
    have:=eF f.2.data.toList [10];rw [← List.length_map (f:=ls),hsp];exact List.length_pos_iff.2 this
  refine qW (rs:=[2,3]) Tryz.func119 rfl rfl rfl teOk rfl ?_;refine qB ?_;refine qI ?_;refine qI ?_;rcases bW f with hc|hc|hc
  ·refine qH ?_;refine Or.inl ?_;refine zai (rfl) ?_;refine zei _ (zai ((gY f 5 (by omega) hc : qX _ _ _ (.one (errN 5)))) ?_);refine qB ?_;refine qJ rfl (fun h12=>?_) (fun h12=>?_)
   ·skip
    refine qB ?_;refine xE 2 9 .str rfl ?_;refine qM ?_;rw [aI hc (by decide)];rfl
   ·try simp only [zbq] at h12
    try simp only [zds] at h12
    cases h12
  ·refine qH ?_;refine Or.inl ?_;refine zai (rfl) ?_;refine zei _ (zai ((gY f 6 (by omega) hc : qX _ _ _ (.one (errN 6)))) ?_);refine qB ?_;refine qJ rfl (fun h12=>?_) (fun h12=>?_)
   ·skip
    refine qB ?_;refine xE 2 9 .str rfl ?_;refine qM ?_;rw [aI hc (by decide)];rfl
   ·try simp only [zbq] at h12
    try simp only [zds] at h12
    cases h12
  ·refine qH ?_;refine Or.inl ?_;refine zai (rfl) ?_;refine zei _ (zai ((gY f 0 (by omega) hc : qX _ _ _ (.one (.lit .nilIface)))) ?_);refine qB ?_;refine qJ rfl (fun h12=>?_) (fun h12=>?_)
   ·try simp only [Bool.not_eq_true'] at h12
    try simp only [zds] at h12
    cases h12
   ·try simp only [Bool.not_eq_false'] at h12
    try simp only [zds] at h12
    have hdl : (ws.drop 1).length = ws.length - 1:=List.length_drop;obtain ⟨hko,hv1,hk1⟩:=fF hc;obtain ⟨p0,hp0⟩ : ∃ p,ws.getD 0 ByteArray.empty = p:=⟨_,rfl⟩;have hp0s : p0.size ≤ 1000000:=by rw [← hp0];exact hsz _ (yK hpos _)
    refine qL ?_;refine qB ?_;refine Or.inl ?_;refine zai (rfl) ?_;refine zei _ (zai (split_v f.2 ⟨#[10]⟩ ws hws (by omega) (by decide)) ?_);refine qB ?_;refine zai (by (have hk0 : ByteArray.size { data:=#[58] } = 1:=rfl;first|(unfold maxLen;omega)|(simp only [ByteArray.size_append];omega)|(unfold maxLen;(try simp only [ByteArray.size_append]);omega))) ?_;refine jJ (fun (u : Unit)=>True) (fun (u : Unit)=>[(5,.one (.sl .str ws)),(6,.one (.vec 1))]) (fun (u : Unit)=>[(1,.vec 9 .str [bytes (gI f.1.data.toList p0.data.toList)])]) 2 ?_ ?_
    ·refine qB ?_;refine zob ?_;refine qJ rfl (fun h24=>?_) (fun h24=>?_)
     ·try simp only [decide_eq_false_iff_not,Bool.not_eq_true'] at h24
      try simp only [qE] at h24
      have hq : (ws.getD (Int.toNat 0) (Rd.str).dflt).size ≤ 1000000:=hsz _ (yK hpos _);have hk2 : ([f.1 ++ (⟨#[58]⟩ : ByteArray)].getD (Int.toNat 0) (Rd.str).dflt).size ≤ 1000:=by show (f.1 ++ (⟨#[58]⟩ : ByteArray)).size ≤ _;rw [ByteArray.size_append,show ByteArray.size ⟨#[58]⟩ = 1 from rfl];omega
      refine yW rfl ?_;refine qO 0 rfl ?_;refine qO 1 rfl ?_;refine zob ?_;refine qO 3 rfl ?_;refine qO 4 rfl ?_;refine zob ?_;refine qK [2,5] ?_;refine zai ?_ ?_
      ·refine zai (by exact Nat.zero_lt_one) ?_;refine qK [5] ?_;refine qO 6 rfl ?_;refine zai (by (have hk0 : ByteArray.size { data:=#[32] } = 1:=rfl;first|(unfold maxLen;omega)|(simp only [ByteArray.size_append];omega)|(unfold maxLen;(try simp only [ByteArray.size_append]);omega))) ?_;refine qO 7 rfl ?_;refine zai (by (have hk0 : ByteArray.size { data:=#[32] } = 1:=rfl;first|(unfold maxLen;omega)|(simp only [ByteArray.size_append];omega)|(unfold maxLen;(try simp only [ByteArray.size_append]);omega))) ?_;refine qO 8 rfl ?_;refine zob ?_;refine qK [9] ?_;refine zai (by exact Nat.zero_lt_one) ?_;refine qU ?_;exact ⟨(),trivial,qP ⟨rfl,rfl⟩ (qV (congrArg (fun x=>[x]) (by rw [← hp0];exact first_b _ _ h24))) rfl⟩
      ·refine qO 6 rfl ?_;refine zai (by (have hk0 : ByteArray.size { data:=#[32] } = 1:=rfl;first|(unfold maxLen;omega)|(simp only [ByteArray.size_append];omega)|(unfold maxLen;(try simp only [ByteArray.size_append]);omega))) ?_;refine qK [2] ?_;refine zai (by exact Nat.zero_lt_one) ?_;refine qO 7 rfl ?_;refine zai (by (have hk0 : ByteArray.size { data:=#[32] } = 1:=rfl;first|(unfold maxLen;omega)|(simp only [ByteArray.size_append];omega)|(unfold maxLen;(try simp only [ByteArray.size_append]);omega))) ?_;refine qO 8 rfl ?_;refine zob ?_;refine qK [9] ?_;refine zai (by exact Nat.zero_lt_one) ?_;refine qU ?_;exact ⟨(),trivial,qP ⟨rfl,rfl⟩ (qV (congrArg (fun x=>[x]) (by rw [← hp0];exact first_b _ _ h24))) rfl⟩
     ·try simp only [decide_eq_true_eq,Bool.not_eq_false'] at h24
      try simp only [qE] at h24
      refine qL ?_;exact ⟨(),trivial,qP ⟨rfl,rfl⟩ (qV (congrArg (fun x=>[x]) (by rw [← hp0];exact first_e _ _ h24))) rfl⟩
    ·intro u hcut8;refine qI ?_;refine qB ?_;refine zob ?_;intro l8_2
     try simp only [zds] at l8_2
     refine qN ?_;refine qR (fun (i : Nat)=>i ≤ (ws.drop 1).length) (fun (i : Nat)=>[(6,.one (.vec 1)),(35,.one (.sl .str (ws.drop 1))),(36,ii .i64 (ws.drop 1).length),(37,ii .i64 i)]) (fun (i : Nat)=>[(1,.vec 9 .str (bytes (gI f.1.data.toList p0.data.toList) :: ((ws.drop 1).take i).map fun s=>bytes (32 :: kO s.data.toList)))]) 2 (fun (i : Nat)=>(ws.drop 1).length - i) 0 (Nat.zero_le _) (qP ⟨rfl,(sl_eq rfl),(qS rfl),rfl⟩ rfl rfl) ?_;intro i hI0;have hi:=hI0;refine qB ?_;refine qI ?_;refine qJ rfl (fun h38=>?_) (fun h38=>?_)
     ·try simp only [decide_eq_true_eq] at h38
      try simp only [zds] at h38
      have hlt : i < (ws.drop 1).length:=by omega
      have hm : ((ws.drop 1).getD i ByteArray.empty).size ≤ 1000000:=hsz _ (List.mem_of_mem_drop (yK hlt _));have hst : (bytes (kO ((ws.drop 1).getD i ByteArray.empty).data.toList)).size ≤ 1000001:=by rw [yR];have:=stuff_len ((ws.drop 1).getD i ByteArray.empty).data.toList;rw [yC] at hm;omega
      refine qL ?_;refine qI ?_;refine qN ?_;refine qB ?_;refine zob ?_;refine qH ?_;refine Or.inl ?_;refine zai (rfl) ?_;refine zei _ (zai (stuffed_v _ _ rfl (by rw [← yC];exact hm)) ?_);refine zai (by unfold maxLen;rw [show ByteArray.size ⟨#[32]⟩ = 1 from rfl,Int.toNat_natCast];exact Nat.le_trans (Nat.add_le_add_left hst 1) (by decide)) ?_;refine zai (by show (_ + 1) * 16 ≤ 140737488355328;rw [List.length_cons,List.length_map,List.length_take];omega) ?_;refine qH ?_;refine zob ?_;exact ⟨i + 1,by omega,by first|omega|(simp <;> omega),qP ⟨rfl,rfl,rfl,(qS (by omega))⟩ (qV (by rw [← map_snoc (fun s : ByteArray=>bytes (32 :: kO s.data.toList)) ByteArray.empty hlt,← List.cons_append,show bytes (32 :: kO ((ws.drop 1).getD i ByteArray.empty).data.toList) = bytes [32] ++ bytes (kO ((ws.drop 1).getD i ByteArray.empty).data.toList) from xS [32] _];rfl)) rfl⟩
     ·try simp only [decide_eq_false_iff_not,Int.not_lt] at h38
      try simp only [zds] at h38
      refine qT ?_;refine qB ?_;refine qM ?_;rw [linesA_ok hc];exact tupS_eq (by rw [List.take_of_length_le (by omega),← lineB_eq hsp hpos,hp0])
def endL (ls : List (List UInt8)) : List UInt8:=ls.flatMap fun s=>s ++ [10]
def textL (f : Fld) : List UInt8:=endL (jO f.1.data.toList f.2.data.toList)
def wJ (l : List Fld) : List UInt8:=l.flatMap textL
def badF (l : List Fld) : Int:=match l with
  | []=>0
  | f :: r=>if xD f = 0 then badF r else xD f
theorem badF_ok : ∀ {l : List Fld},(∀ f ∈ l,xD f = 0) → badF l = 0
  | [],_=>rfl
  | f :: r,h=>by unfold badF;rw [if_pos (h f (by simp)),badF_ok fun g hg=>h g (by simp [hg])]
theorem badF_at : ∀ {l : List Fld} {i : Nat} (d : Fld),i < l.length → (∀ f ∈ l.take i,xD f = 0) → xD (l.getD i d) ≠ 0 → badF l = xD (l.getD i d)
  | f :: r,0,d,_,_,h=>by unfold badF;rw [if_neg (by simpa using h)];rfl
  | f :: r,i + 1,d,hi,ht,h=>by
    unfold badF;rw [if_pos (ht f (by simp)),badF_at d (by simpa using hi) (fun g hg=>ht g (by simp [hg])) (by simpa using h)];simp
theorem endL_snoc (ps : List (List UInt8)) (k : Nat) (h : k < ps.length) : endL (ps.take (k + 1)) = endL (ps.take k) ++ (ps.getD k [] ++ [10]):=by
  rw [← yE [] h];simp [endL]
theorem foldL_snoc (l : List Fld) (i : Nat) (d : Fld) (h : i < l.length) : wJ (l.take (i + 1)) = wJ (l.take i) ++ textL (l.getD i d):=by
  rw [← yE d h];simp [wJ]
theorem flat_le {α : Type} (g : α → List UInt8) (B : Nat) : ∀ l : List α,(∀ x ∈ l,(g x).length ≤ B) → (l.flatMap g).length ≤ l.length * B
  | [],_=>by simp
  | x :: l,h=>by
    rw [List.flatMap_cons,List.length_append,List.length_cons,Nat.succ_mul];have:=h x (by simp);have:=flat_le g B l fun y hy=>h y (by simp [hy])
    omega
theorem line_len {k v : List UInt8} (hk : k.length ≤ 32) (hv : v.length ≤ 1000) : (jO k v).length ≤ 2000 ∧ ∀ s ∈ jO k v,s.length ≤ 2000:=by
  have hp : ∀ p ∈ xB v,p.length ≤ v.length:=fun p hp=>split_mem hp
  have hl : (xB v).length ≤ v.length + 1:=by
    have:=fR (bytes [10]) (bytes v) (by decide);have h2:=congrArg List.length (eG (bytes [10]) (bytes v));rw [List.length_map] at h2;rw [h2] at this;unfold ls at this;rw [yN,yN,yR] at this;exact this
  refine ⟨?_,fun s hs=>?_⟩
  · unfold jO;simp only [List.length_cons,List.length_map,List.length_drop];omega
  · unfold jO at hs;rcases List.mem_cons.1 hs with rfl|hs
    · unfold gI;have h0 : ((xB v).headD []).length ≤ v.length:=by
        cases e : xB v with
        | nil=>exact absurd e (eF v [10])
        | cons p ps=>rw [e] at hp;exact hp p (by simp)
      have h1 : (if (xB v).headD [] = [] then [] else 32 :: (xB v).headD [] : List UInt8).length ≤ ((xB v).headD []).length + 1:=by split <;> simp
      simp only [List.length_append,List.length_cons,List.length_nil];omega
    · obtain ⟨q,hq,rfl⟩:=List.mem_map.1 hs;have:=stuff_len q;have:=hp q (List.mem_of_mem_drop hq);simp only [List.length_cons];omega
theorem eC {f : Fld} (h : xD f = 0) : (textL f).length ≤ 5000000 ∧ ∀ k,(endL ((jO f.1.data.toList f.2.data.toList).take k)).length ≤ 5000000:=by
  obtain ⟨_,h2,h3⟩:=fF h;rw [yC] at h2 h3;obtain ⟨h4,h5⟩:=line_len h3 h2;have : ∀ ps : List (List UInt8),ps.length ≤ 2000 → (∀ s ∈ ps,s.length ≤ 2000) → (endL ps).length ≤ 5000000:=fun ps hl hs=>by
    have:=flat_le (fun s : List UInt8=>s ++ [10]) 2001 ps (fun s h=>by have:=hs s h;simp;omega);unfold endL;have : ps.length * 2001 ≤ 2000 * 2001:=Nat.mul_le_mul_right _ hl;omega
  exact ⟨this _ h4 h5,fun k=>this _ (by rw [List.length_take];omega) fun s hs=>h5 s (List.mem_of_mem_take hs)⟩
def foldA (l : List Fld) : A:=if badF l = 0 then .tup [(false,[.lit (.string (bytes (wJ l)))]),(false,[.lit .nilIface])] else .tup [(false,[.lit (.string ⟨#[]⟩)]),(false,[errN (badF l)])]
theorem lineB_get {k v : ByteArray} {j : Nat} (h : j < (jE k v).length) : (jE k v).getD j ByteArray.empty = bytes ((jO k.data.toList v.data.toList).getD j []):=by
  unfold jE at *;rw [List.length_map] at h;rw [List.getD_eq_getElem?_getD,List.getElem?_map,List.getD_eq_getElem?_getD,List.getElem?_eq_getElem h];rfl
theorem fold_c {κ : Nat} (l : List Fld) (hl : yP l) : qX Tryz.prog 97 [.one (.slk κ rFld l)] (foldA l):=by
  have hln:=hl.1;refine qW (rs:=[2,3]) Tryz.func97 rfl rfl rfl teOk rfl ?_;refine qB ?_;refine qB ?_;refine qI ?_;refine qI ?_;refine acode_bld 0 5 (.int .u8) rfl ?_;refine qH ?_;intro l2_1
  try simp only [zds] at l2_1
  refine qN ?_;refine qR (fun (x : Nat × Bool)=>x.1 ≤ l.length ∧ ∀ f ∈ l.take x.1,xD f = 0) (fun (x : Nat × Bool)=>[(4,.one (.own 0 0)),(11,.one (.slk κ rFld l)),(12,ii .i64 l.length),(13,ii .i64 x.1)]) (fun (x : Nat × Bool)=>[(0,.box 191 [.nself x.2 0,.vec 1]),(1,.vec 5 (.int .u8) (xX (bytes (wJ (l.take x.1)))))]) 2 (fun (x : Nat × Bool)=>l.length - x.1) (0,false) (⟨Nat.zero_le _,by simp⟩) (qP ⟨rfl,rfl,rfl,rfl⟩ ⟨rfl,rfl⟩ rfl) ?_;intro ⟨i,u⟩ hI0;simp only at hI0 ⊢;obtain ⟨hi,hall⟩:=hI0;refine qB ?_;refine qI ?_;refine qJ rfl (fun h14=>?_) (fun h14=>?_)
  ·try simp only [decide_eq_true_eq] at h14
   try simp only [zds] at h14
   have hlt : i < l.length:=by omega
   have hm:=hl.2 _ (yK hlt (ByteArray.empty,ByteArray.empty));have hfl : (wJ (l.take i)).length ≤ 1000 * 5000000:=by refine Nat.le_trans (flat_le textL 5000000 _ fun f hf=>(eC (hall f hf)).1) (Nat.mul_le_mul_right _ (by rw [List.length_take];omega))
   refine qL ?_;refine qI ?_;refine qN ?_;refine qB ?_;refine zob ?_;refine qI ?_;rcases bW (l.getD i (ByteArray.empty,ByteArray.empty)) with hc|hc|hc
   ·refine qH ?_;refine Or.inl ?_;refine zai (rfl) ?_;refine zei _ (zai ((by have:=lines_c (l.getD i (ByteArray.empty,ByteArray.empty)) hm.1 hm.2;rw [aI hc (by decide)] at this;exact this)) ?_);refine qI ?_;refine qB ?_;refine qJ rfl (fun h23=>?_) (fun h23=>?_)
    ·skip
     refine qB ?_;refine qM ?_;have hb : badF l = 5:=by rw [badF_at (ByteArray.empty,ByteArray.empty) hlt hall (by rw [hc];decide),hc]
     unfold foldA;rw [if_neg (by rw [hb];decide),hb];rfl
    ·try simp only [zbq] at h23
     try simp only [zds] at h23
     cases h23
   ·refine qH ?_;refine Or.inl ?_;refine zai (rfl) ?_;refine zei _ (zai ((by have:=lines_c (l.getD i (ByteArray.empty,ByteArray.empty)) hm.1 hm.2;rw [aI hc (by decide)] at this;exact this)) ?_);refine qI ?_;refine qB ?_;refine qJ rfl (fun h23=>?_) (fun h23=>?_)
    ·skip
     refine qB ?_;refine qM ?_;have hb : badF l = 6:=by rw [badF_at (ByteArray.empty,ByteArray.empty) hlt hall (by rw [hc];decide),hc]
     unfold foldA;rw [if_neg (by rw [hb];decide),hb];rfl
    ·try simp only [zbq] at h23
     try simp only [zds] at h23
     cases h23
   ·refine qH ?_;refine Or.inl ?_;refine zai (rfl) ?_;refine zei _ (zai ((by have:=lines_c (l.getD i (ByteArray.empty,ByteArray.empty)) hm.1 hm.2;rw [linesA_ok hc] at this;exact this)) ?_);refine qI ?_;refine qB ?_;refine qJ rfl (fun h23=>?_) (fun h23=>?_)
    ·try simp only [Bool.not_eq_true'] at h23
     try simp only [zds] at h23
     cases h23
    ·try simp only [Bool.not_eq_false'] at h23
     try simp only [zds] at h23
     obtain ⟨ps,hps⟩ : ∃ ps,jE (l.getD i (ByteArray.empty,ByteArray.empty)).1 (l.getD i (ByteArray.empty,ByteArray.empty)).2 = ps:=⟨_,rfl⟩;refine qL ?_;refine qB ?_;intro l8_1
     try simp only [zds] at l8_1
     refine qN ?_;refine qR (fun (y : Nat × Bool)=>y.1 ≤ (jE (l.getD i (ByteArray.empty,ByteArray.empty)).1 (l.getD i (ByteArray.empty,ByteArray.empty)).2).length) (fun (y : Nat × Bool)=>[(4,.one (.own 0 0)),(11,.one (.slk κ rFld l)),(12,ii .i64 l.length),(13,ii .i64 i),(25,.one (.sl .str (jE (l.getD i (ByteArray.empty,ByteArray.empty)).1 (l.getD i (ByteArray.empty,ByteArray.empty)).2))),(26,ii .i64 (jE (l.getD i (ByteArray.empty,ByteArray.empty)).1 (l.getD i (ByteArray.empty,ByteArray.empty)).2).length),(27,ii .i64 y.1)]) (fun (y : Nat × Bool)=>[(0,.box 191 [.nself y.2 0,.vec 1]),(1,.vec 5 (.int .u8) (xX (bytes (wJ (l.take i) ++ endL ((jO (l.getD i (ByteArray.empty,ByteArray.empty)).1.data.toList (l.getD i (ByteArray.empty,ByteArray.empty)).2.data.toList).take y.1)))))]) 2 (fun (y : Nat × Bool)=>(jE (l.getD i (ByteArray.empty,ByteArray.empty)).1 (l.getD i (ByteArray.empty,ByteArray.empty)).2).length - y.1) (0,u) (Nat.zero_le _) (qP ⟨rfl,rfl,rfl,rfl,rfl,rfl,rfl⟩ ⟨rfl,(qV (by simp [endL]))⟩ rfl) ?_;intro ⟨k,u2⟩ hI2;simp only at hI2 ⊢;have hk:=hI2;refine qB ?_;refine qI ?_;refine qJ rfl (fun h28=>?_) (fun h28=>?_)
     ·try simp only [decide_eq_true_eq] at h28
      try simp only [zds] at h28
      have hlk : k < (jE (l.getD i (ByteArray.empty,ByteArray.empty)).1 (l.getD i (ByteArray.empty,ByteArray.empty)).2).length:=by omega
      have hg:=lineB_get hlk;have hlk2 : k < (jO (l.getD i (ByteArray.empty,ByteArray.empty)).1.data.toList (l.getD i (ByteArray.empty,ByteArray.empty)).2.data.toList).length:=by unfold jE at hlk;rw [List.length_map] at hlk;exact hlk
      have hgs : ((jE (l.getD i (ByteArray.empty,ByteArray.empty)).1 (l.getD i (ByteArray.empty,ByteArray.empty)).2).getD k ByteArray.empty).size ≤ 2000:=by rw [hg,yR];obtain ⟨_,h2,h3⟩:=fF hc;rw [yC] at h2 h3;exact (line_len h3 h2).2 _ (yK hlk2 _)
      have hen:=(eC hc).2 k;refine qL ?_;refine qI ?_;refine qN ?_;refine qB ?_;refine zob ?_;refine qH ?_;refine zai (by unfold maxLen;rw [Int.toNat_natCast];exact Nat.le_trans (Nat.add_le_add_right hgs 1) (by decide)) ?_;refine Or.inr (Or.inl (zei [] (zei [0,1] (zei _ (zei _ (zei _ (zei _ (zei _ (zai (writeString_o _ _ _ (by rw [ints_len,List.length_append,ByteArray.size_append,Int.toNat_natCast,show ByteArray.size ⟨#[10]⟩ = 1 from rfl];have:=hgs;show _ + (((jE (l.getD i (ByteArray.empty,ByteArray.empty)).1 (l.getD i (ByteArray.empty,ByteArray.empty)).2).getD k ByteArray.empty).size + 1) ≤ _;omega)) (zai rfl (zai (zai (zai rfl rfl) (zai (zai rfl rfl) True.intro)) (zai rfl ?_))))))))))));refine qH ?_;refine zob ?_;exact ⟨(k + 1,true),(by simp only;omega),by first|omega|(simp <;> omega),qP ⟨rfl,rfl,rfl,rfl,rfl,rfl,(qS (by simp only;omega))⟩ ⟨rfl,(qV (by simp only;rw [endL_snoc _ _ hlk2,← List.append_assoc];exact ints_add _ _ _ (by rw [xS,← hg];rfl)))⟩ rfl⟩
     ·try simp only [decide_eq_false_iff_not,Int.not_lt] at h28
      try simp only [zds] at h28
      refine qT ?_;refine qH ?_;refine zob ?_;exact ⟨(i + 1,u2),⟨by simp only;omega,by simp only;rw [← yE (ByteArray.empty,ByteArray.empty) hlt];intro f hf;rcases List.mem_append.1 hf with h|h;exact hall f h;rw [List.mem_singleton.1 h];exact hc⟩,by first|omega|(simp <;> omega),qP ⟨rfl,rfl,rfl,(qS (by simp only;omega))⟩ ⟨rfl,(qV (by simp only;rw [foldL_snoc l i (ByteArray.empty,ByteArray.empty) hlt,show List.take k (jO (l.getD i (ByteArray.empty,ByteArray.empty)).1.data.toList (l.getD i (ByteArray.empty,ByteArray.empty)).2.data.toList) = jO (l.getD i (ByteArray.empty,ByteArray.empty)).1.data.toList (l.getD i (ByteArray.empty,ByteArray.empty)).2.data.toList from List.take_of_length_le (by unfold jE at h28;rw [List.length_map] at h28;omega)];rfl))⟩ rfl⟩
  ·try simp only [decide_eq_false_iff_not,Int.not_lt] at h14
   try simp only [zds] at h14
   refine qT ?_;refine qB ?_;refine Or.inr (Or.inl (zei [] (zei [0,1] (zei _ (zei _ (zei _ (zei _ (zei _ (zai (string_o _ _) (zai rfl (zai (zai (zai rfl rfl) (zai (zai rfl rfl) True.intro)) (zai rfl ?_))))))))))));refine qM ?_;rw [List.take_of_length_le (by omega)] at hall ⊢;unfold foldA;rw [if_pos (badF_ok hall)];rfl
theorem fold_yes {κ : Nat} {l : List Fld} (hl : yP l) (h : badF l = 0) : qX Tryz.prog 97 [.one (.slk κ rFld l)] (.tup [(false,[.lit (.string (bytes (wJ l)))]),(false,[.lit .nilIface])]):=by
  have:=fold_c (κ:=κ) l hl;unfold foldA at this;rw [if_pos h] at this;exact this
theorem cO {ps : List (List UInt8)} (q sep : List UInt8) (h : ps ≠ []) : Lib.join (ps ++ [q]) sep = Lib.join ps sep ++ (sep ++ q):=by
  induction ps with
  | nil=>exact absurd rfl h
  | cons p r ih =>
    cases r with
    | nil=>rw [List.cons_append,List.nil_append,vI,Lib.join_one,Lib.join_one];simp
    | cons a b=>rw [List.cons_append,List.cons_append,vI,vI,← List.cons_append,ih (by simp)];simp
theorem parts_of {ps : List (List UInt8)} (h : ps ≠ []) (hn : ∀ p ∈ ps,10 ∉ p) : xB (Lib.join ps [10]) = ps:=split_join (by simp) ps h fun p hp=>clean_one (hn p hp)
theorem bK (l : List UInt8) : xB l ≠ []:=eF l [10]
theorem parts_ten (l : List UInt8) : xB (l ++ [10]) = xB l ++ [[]]:=by
  have : l ++ [10] = Lib.join (xB l ++ [[]]) [10]:=by rw [cO _ _ (bK l),parts_join];simp
  rw [this];exact parts_of (by simp) fun p hp=>by
    rcases List.mem_append.1 hp with h|h
    · exact parts_no l p h
    · rw [List.mem_singleton.1 h];simp
theorem join_last (ps : List (List UInt8)) (q r : List UInt8) : Lib.join (ps ++ [q ++ r]) [10] = Lib.join (ps ++ [q]) [10] ++ r:=by
  cases ps with
  | nil=>simp [Lib.join_one]
  | cons a b=>rw [cO _ _ (by simp),cO _ _ (by simp)];simp
theorem parts_last (l : List UInt8) : ∃ ps q,xB l = ps ++ [q]:=by
  cases h : xB l with
  | nil=>exact absurd h (bK l)
  | cons a b=>exact ⟨(a :: b).dropLast,(a :: b).getLast (by simp),(List.dropLast_concat_getLast (by simp)).symm⟩
theorem parts_one (l : List UInt8) {c : UInt8} (hc : c ≠ 10) : xB (l ++ [c]) = (xB l).set ((xB l).length - 1) ((xB l).getD ((xB l).length - 1) [] ++ [c]):=by
  obtain ⟨ps,q,e⟩:=parts_last l;have hno:=parts_no l;have hj:=parts_join l;rw [e] at hj hno;have e2 : (xB l).set ((xB l).length - 1) ((xB l).getD ((xB l).length - 1) [] ++ [c]) = ps ++ [q ++ [c]]:=by rw [e];simp
  rw [e2,← hj,← join_last];exact parts_of (by simp) fun p hp=>by
    rcases List.mem_append.1 hp with h|h
    · exact hno p (by simp [h])
    · rw [List.mem_singleton.1 h];simp only [List.mem_append,List.mem_singleton,not_or];exact ⟨hno q (by simp),fun e=>hc e.symm⟩
theorem parts_len (l : List UInt8) : (xB l).length ≤ l.length + 1:=by
  have:=fR (bytes [10]) (bytes l) (by decide);have h2:=congrArg List.length (eG (bytes [10]) (bytes l));rw [List.length_map] at h2;rw [h2] at this;unfold ls at this;rw [yN,yN,yR] at this;exact this
theorem part_size (l : List UInt8) {x : ByteArray} (h : x ∈ (xB l).map bytes) : x.size ≤ l.length:=by
  obtain ⟨p,hp,rfl⟩:=List.mem_map.1 h;rw [yR];exact split_mem hp
theorem fW (l : List UInt8) {c : UInt8} (hc : c ≠ 10) (k : Nat) (hk : k = (xB l).length - 1) : ((xB l).map bytes).set k (((xB l).map bytes).getD k Rd.str.dflt ++ bytes [c]) = (xB (l ++ [c])).map bytes:=by
  subst hk;have hlt : (xB l).length - 1 < (xB l).length:=by have:=List.length_pos_iff.2 (bK l);omega
  rw [parts_one l hc,List.map_set,xS]
  congr 2
  rw [List.getD_eq_getElem?_getD,List.getElem?_map,List.getD_eq_getElem?_getD,List.getElem?_eq_getElem hlt];rfl
def partB (s : ByteArray) : List ByteArray:=(xB s.data.toList).map bytes
theorem refParts_c (s : ByteArray) (hs : s.size ≤ 1000000) : qX Tryz.prog 136 [is s] (.one (.sl .str (partB s))):=by
  have hz:=yC s;refine qW (rs:=[2]) Tryz.func136 rfl rfl rfl teOk rfl ?_;refine qB ?_;refine qB ?_;refine qI ?_;refine qB ?_;refine qN ?_;refine qR (fun (i : Nat)=>i ≤ s.size) (fun (i : Nat)=>[(0,is s),(3,.one (.vec 0)),(4,ii .i64 i)]) (fun (i : Nat)=>[(0,.vec 9 .str ((xB (s.data.toList.take i)).map bytes))]) 1 (fun (i : Nat)=>s.size - i) 0 (Nat.zero_le _) (qP ⟨rfl,rfl,rfl⟩ (qV rfl) rfl) ?_;intro i hI0;have hi:=hI0;refine qI ?_;refine qB ?_;refine qJ rfl (fun h9=>?_) (fun h9=>?_)
  ·try simp only [decide_eq_true_eq] at h9
   try simp only [zds] at h9
   have hlt : i < s.data.toList.length:=by omega
   have hpl:=parts_len (s.data.toList.take i);have hti : (s.data.toList.take i).length ≤ i:=by rw [List.length_take];omega
   refine qL ?_;refine qI ?_;refine qN ?_;refine qB ?_;refine zob ?_;refine qJ rfl (fun h15=>?_) (fun h15=>?_)
   ·try simp only [decide_eq_true_eq] at h15
    try simp only [Int.toNat_natCast] at h15
    refine qH ?_;refine zai (by show (_ + 1) * 16 ≤ 140737488355328;rw [List.length_map];omega) ?_;refine qH ?_;refine zob ?_;exact ⟨i + 1,by omega,by first|omega|(simp <;> omega),qP ⟨rfl,rfl,(qS (by omega))⟩ (qV (by rw [← yE 0 hlt,show s.data.toList.getD i 0 = 10 from aY h15,parts_ten,List.map_append];rfl)) rfl⟩
   ·try simp only [decide_eq_false_iff_not] at h15
    try simp only [Int.toNat_natCast] at h15
    have hp1:=List.length_pos_iff.2 (bK (s.data.toList.take i));have hmp : ((xB (s.data.toList.take i)).map bytes).length = (xB (s.data.toList.take i)).length:=List.length_map _;have hx : s.extract (i : Int).toNat ((i : Int) + 1).toNat = bytes [s.data.toList.getD i 0]:=by rw [Int.toNat_natCast,show ((i : Int) + 1).toNat = i + 1 by omega,iL hlt]
    have hx1 : (s.extract (i : Int).toNat ((i : Int) + 1).toNat).size = 1:=by rw [hx];rfl
    have hes : (((xB (s.data.toList.take i)).map bytes).getD ((((xB (s.data.toList.take i)).map bytes).length : Int) - 1).toNat Rd.str.dflt).size ≤ 1000000:=Nat.le_trans (part_size _ (yK (by omega) _)) (by omega);refine yW rfl ?_;refine qO 0 rfl ?_;refine qO 1 rfl ?_;refine qO 4 rfl ?_;refine qO 5 rfl ?_;refine qO 10 rfl ?_;refine qO 11 rfl ?_;refine qO 12 rfl ?_;refine qO 13 rfl ?_;refine zob ?_;refine qO 14 rfl ?_;refine zob ?_;refine qK [2,6] ?_;refine zai ?_ ?_
    ·intro l7_2
     try simp only [zds] at l7_2
     refine qO 3 rfl ?_;refine zob ?_;refine qK [6] ?_;intro l7_6
     try simp only [zds] at l7_6
     refine qO 7 rfl ?_;refine zob ?_;refine qO 8 rfl ?_;refine zob ?_;refine qK [9] ?_;refine zai (by omega) ?_;refine qO 15 rfl ?_;refine zai (by first|omega|(simp only [ByteArray.size_append];omega)|(unfold maxLen;(try simp only [ByteArray.size_append]);omega)) ?_;refine qO 16 rfl ?_;refine zob ?_;refine qK [17] ?_;refine zai (by omega) ?_;refine qU ?_;refine qH ?_;refine zob ?_;exact ⟨i + 1,by omega,by first|omega|(simp <;> omega),qP ⟨rfl,rfl,(qS (by omega))⟩ (qV (by rw [hx,← yE 0 hlt];exact fW _ (fun e=>h15 (by rw [e];rfl)) _ (by omega))) rfl⟩
    ·intro l7_6
     try simp only [zds] at l7_6
     refine qO 7 rfl ?_;refine zob ?_;refine qO 8 rfl ?_;refine zob ?_;refine qK [2,9] ?_;refine zai ?_ ?_
     ·intro l7_2
      try simp only [zds] at l7_2
      refine qO 3 rfl ?_;refine zob ?_;refine qK [9] ?_;refine zai (by omega) ?_;refine qO 15 rfl ?_;refine zai (by first|omega|(simp only [ByteArray.size_append];omega)|(unfold maxLen;(try simp only [ByteArray.size_append]);omega)) ?_;refine qO 16 rfl ?_;refine zob ?_;refine qK [17] ?_;refine zai (by omega) ?_;refine qU ?_;refine qH ?_;refine zob ?_;exact ⟨i + 1,by omega,by first|omega|(simp <;> omega),qP ⟨rfl,rfl,(qS (by omega))⟩ (qV (by rw [hx,← yE 0 hlt];exact fW _ (fun e=>h15 (by rw [e];rfl)) _ (by omega))) rfl⟩
     ·refine zai (by omega) ?_;refine qO 15 rfl ?_;refine zai (by first|omega|(simp only [ByteArray.size_append];omega)|(unfold maxLen;(try simp only [ByteArray.size_append]);omega)) ?_;refine qK [2] ?_;intro l7_2
      try simp only [zds] at l7_2
      refine qO 3 rfl ?_;refine zob ?_;refine qO 16 rfl ?_;refine zob ?_;refine qK [17] ?_;refine zai (by omega) ?_;refine qU ?_;refine qH ?_;refine zob ?_;exact ⟨i + 1,by omega,by first|omega|(simp <;> omega),qP ⟨rfl,rfl,(qS (by omega))⟩ (qV (by rw [hx,← yE 0 hlt];exact fW _ (fun e=>h15 (by rw [e];rfl)) _ (by omega))) rfl⟩
  ·try simp only [decide_eq_false_iff_not,Int.not_lt] at h9
   try simp only [zds] at h9
   refine qT ?_;refine qB ?_;refine qM ?_;exact sl_eq (by rw [List.take_of_length_le (by omega)];rfl)
theorem refParts_v (s : ByteArray) (ws : List ByteArray) (h : partB s = ws) (hs : s.size ≤ 1000000) : qX Tryz.prog 136 [is s] (.one (.sl .str ws)):=by
  subst h;exact refParts_c s hs
theorem hF {p : List UInt8} (h : 10 ∉ p) : yJ p = 1 ↔ p.all blankC = true:=by
  unfold yJ;rw [if_neg h];split
  · rename_i h2;exact ⟨fun _=>h2,fun _=>rfl⟩
  · rename_i h2;refine ⟨fun h3=>?_,fun h3=>absurd h3 h2⟩;split at h3
    · cases h3
    · split at h3
      · cases h3
      · split at h3 <;> cases h3
theorem stuff_yes {p : List UInt8} (h : 10 ∉ p) (hk : yJ p = 1 ∨ p.getD 0 0 = 46) : kO p = 46 :: p:=by
  unfold kO;rw [if_pos];rw [jT];rcases hk with hk|hk
  · rw [(hF h).1 hk];rfl
  · cases p with
    | nil=>rfl
    | cons a b=>simp only [List.getD_cons_zero] at hk;rw [hk];simp
theorem stuff_not {p : List UInt8} (h : 10 ∉ p) (hk : yJ p ≠ 1) (hd : p.getD 0 0 ≠ 46) : kO p = p:=by
  unfold kO;rw [if_neg];rw [jT,decide_eq_false hd,Bool.and_false,Bool.or_false];exact fun e=>hk ((hF h).2 e)
theorem refKind_v (s : ByteArray) (n : Int) (h : yJ s.data.toList = n) (hs : s.size ≤ 1000000000) : qX Tryz.prog 51 [is s] (ii .i64 n):=by
  subst h;exact cF s hs
theorem kind_pos {s : ByteArray} (h : 10 ∉ s.data.toList) (hk : ¬ yJ s.data.toList = 1) : 0 < s.size:=by
  refine Nat.pos_of_ne_zero fun e=>hk ((hF h).2 ?_)
  rw [yC] at e;rw [List.eq_nil_of_length_eq_zero e];rfl
theorem ref_dot {s : ByteArray} (h : 10 ∉ s.data.toList) (hk : yJ s.data.toList = 1 ∨ s.data.toList.getD 0 0 = 46) : (⟨#[32,46]⟩ : ByteArray) ++ s = bytes (32 :: kO s.data.toList):=by
  rw [stuff_yes h hk,show (32 :: 46 :: s.data.toList) = [32,46] ++ s.data.toList from rfl,xS,show bytes s.data.toList = s from kA s];rfl
theorem ref_bare {s : ByteArray} (h : 10 ∉ s.data.toList) (hk : ¬ yJ s.data.toList = 1) (hd : ¬ s.data.toList.getD 0 0 = 46) : (⟨#[32]⟩ : ByteArray) ++ s = bytes (32 :: kO s.data.toList):=by
  rw [stuff_not h hk hd,show (32 :: s.data.toList) = [32] ++ s.data.toList from rfl,xS,show bytes s.data.toList = s from kA s];rfl
theorem refLines_c (f : Fld) (hk : f.1.size ≤ 1000000) (hv : f.2.size ≤ 1000000) : qX Tryz.prog 117 [.agg (toL rFld f)] (.one (.sl .str (jE f.1 f.2))):=by
  obtain ⟨ws,hws⟩ : ∃ ws,partB f.2 = ws:=⟨_,rfl⟩;have hsz : ∀ x ∈ ws,x.size ≤ 1000000:=fun x hx=>Nat.le_trans (part_size _ (hws ▸ hx)) (by rw [← yC];exact hv)
  have hno : ∀ x ∈ ws,10 ∉ x.data.toList:=fun x hx=>by
    rw [← hws] at hx;obtain ⟨p,hp,rfl⟩:=List.mem_map.1 hx;rw [yN];exact parts_no _ p hp
  have hsp : ws.map ls = xB f.2.data.toList:=by
    rw [← hws];unfold partB;rw [List.map_map]
    conv=>rhs;rw [← List.map_id (xB f.2.data.toList)]
    exact List.map_congr_left fun s _=>yN s
  have hpos : 0 < ws.length:=by
    rw [← List.length_map (f:=ls),hsp];exact List.length_pos_iff.2 (bK _)
  have hlen : ws.length ≤ 1000001:=by
    rw [← List.length_map (f:=ls),hsp];have:=parts_len f.2.data.toList;rw [← yC] at this;omega
  have hdl : (ws.drop 1).length = ws.length - 1:=List.length_drop;obtain ⟨p0,hp0⟩ : ∃ p,ws.getD 0 ByteArray.empty = p:=⟨_,rfl⟩;have hp0s : p0.size ≤ 1000000:=by rw [← hp0];exact hsz _ (yK hpos _)
  have h58 : ByteArray.size ⟨#[58]⟩ = 1:=rfl;have h32 : ByteArray.size ⟨#[32]⟩ = 1:=rfl;have h3246 : ByteArray.size ⟨#[32,46]⟩ = 2:=rfl;have hp0r : (ws.getD (Int.toNat 0) Rd.str.dflt).size ≤ 1000000:=hsz _ (yK hpos _);refine qW (rs:=[2]) Tryz.func117 rfl rfl rfl teOk rfl ?_;refine qB ?_;refine qB ?_;refine Or.inl ?_;refine zai (rfl) ?_;refine zei _ (zai (refParts_v f.2 ws hws hv) ?_);refine qB ?_;refine zai (by (have hk0 : ByteArray.size { data:=#[58] } = 1:=rfl;first|(unfold maxLen;omega)|(simp only [ByteArray.size_append];omega)|(unfold maxLen;(try simp only [ByteArray.size_append]);omega))) ?_;refine jJ (fun (u : Unit)=>True) (fun (u : Unit)=>[(3,.one (.sl .str ws)),(4,is (bytes (gI f.1.data.toList p0.data.toList)))]) (fun (u : Unit)=>[]) 1 ?_ ?_
  ·refine qB ?_;refine zob ?_;refine qJ rfl (fun h16=>?_) (fun h16=>?_)
   ·try simp only [decide_eq_false_iff_not,Bool.not_eq_true'] at h16
    try simp only [qE] at h16
    refine qH ?_;refine zai (by (have hk0 : ByteArray.size { data:=#[32] } = 1:=rfl;first|(unfold maxLen;omega)|(simp only [ByteArray.size_append];omega)|(unfold maxLen;(try simp only [ByteArray.size_append]);omega))) ?_;refine zob ?_;refine zai (by (have hk0 : ByteArray.size { data:=#[32] } = 1:=rfl;first|(unfold maxLen;omega)|(simp only [ByteArray.size_append];omega)|(unfold maxLen;(try simp only [ByteArray.size_append]);omega))) ?_;exact ⟨(),trivial,qP ⟨rfl,(gU (by rw [← hp0,ByteArray.append_assoc];exact first_b _ _ h16))⟩ trivial rfl⟩
   ·try simp only [decide_eq_true_eq,Bool.not_eq_false'] at h16
    try simp only [qE] at h16
    refine qL ?_;exact ⟨(),trivial,qP ⟨rfl,(gU (by rw [← hp0];exact first_e _ _ h16))⟩ trivial rfl⟩
  ·intro u hcut5;refine qB ?_;refine qI ?_;refine qB ?_;refine qN ?_;refine qR (fun (i : Nat)=>i ≤ (ws.drop 1).length) (fun (i : Nat)=>[(3,.one (.sl .str ws)),(5,.one (.vec 1)),(6,ii .i64 ((i : Int) + 1))]) (fun (i : Nat)=>[(1,.vec 9 .str (bytes (gI f.1.data.toList p0.data.toList) :: ((ws.drop 1).take i).map fun s=>bytes (32 :: kO s.data.toList)))]) 2 (fun (i : Nat)=>(ws.drop 1).length - i) 0 (Nat.zero_le _) (qP ⟨rfl,rfl,rfl⟩ rfl rfl) ?_;intro i hI0;have hi:=hI0;refine qI ?_;refine qB ?_;intro l7_2
   try simp only [zds] at l7_2
   refine qJ rfl (fun h28=>?_) (fun h28=>?_)
   ·try simp only [decide_eq_true_eq] at h28
    try simp only [zds] at h28
    have hlt : i + 1 < ws.length:=by omega
    have hxm : ws.getD ((i : Int) + 1).toNat Rd.str.dflt ∈ ws:=yK (by omega) _;have hxs:=hsz _ hxm;refine qL ?_;refine qI ?_;refine qN ?_;refine qB ?_;refine zob ?_;refine Or.inl ?_;refine zai (rfl) ?_;refine zei _ (zai (refKind_v _ _ rfl (by omega)) ?_);refine zai (fun h=>trivial) ?_;refine zai (fun h=>trivial) ?_;refine zai (fun h=>⟨⟨⟨h,trivial⟩,⟨h,trivial⟩,trivial⟩,by first|omega|decide|(simp only [zds];omega)|(have h9:=of_decide_eq_true h;omega)|(simp [gq] at h;omega)⟩) ?_;refine zai (fun h=>⟨⟨h,trivial⟩,trivial⟩) ?_;refine zai (fun h=>⟨⟨⟨h,trivial⟩,trivial⟩,by have h7:=kind_pos (hno _ hxm) (of_decide_eq_false (by simpa [gq] using h));omega⟩) ?_;refine zai (fun h=>⟨⟨h,trivial⟩,trivial⟩) ?_;refine zai (by first|(intro h;rw [h];rfl)|(intro h;cases h)) ?_;refine qJ rfl (fun h44=>?_) (fun h44=>?_)
    ·try simp only [decide_eq_true_eq,Bool.or_eq_true] at h44
     try simp only [qE] at h44
     refine qH ?_;refine zob ?_;refine zai (by (have hk0 : ByteArray.size { data:=#[32,46] } = 2:=rfl;first|(unfold maxLen;omega)|(simp only [ByteArray.size_append];omega)|(unfold maxLen;(try simp only [ByteArray.size_append]);omega))) ?_;refine zai (by first|exact qQ (by first|omega|(simp only [List.length_cons,List.length_nil,List.length_map,List.length_take,List.length_drop];omega)|(simp;omega)) (by decide)|omega|assumption|decide|(simp only [zds];omega)|(simp <;> omega)) ?_;refine qH ?_;refine zob ?_;exact ⟨i + 1,by omega,by first|omega|(simp <;> omega),qP ⟨rfl,rfl,(qS (by omega))⟩ (qV (map_next (fun s : ByteArray=>bytes (32 :: kO s.data.toList)) ByteArray.empty (by omega) _ (by rw [drop_getD];exact ref_dot (hno _ hxm) (h44.imp id (fun e=>aY (b:=46) e))) [_])) rfl⟩
    ·try simp only [decide_eq_false_iff_not,Bool.or_eq_false_iff] at h44
     try simp only [qE] at h44
     refine qH ?_;refine zob ?_;refine zai (by (have hk0 : ByteArray.size { data:=#[32] } = 1:=rfl;first|(unfold maxLen;omega)|(simp only [ByteArray.size_append];omega)|(unfold maxLen;(try simp only [ByteArray.size_append]);omega))) ?_;refine zai (by first|exact qQ (by first|omega|(simp only [List.length_cons,List.length_nil,List.length_map,List.length_take,List.length_drop];omega)|(simp;omega)) (by decide)|omega|assumption|decide|(simp only [zds];omega)|(simp <;> omega)) ?_;refine qH ?_;refine zob ?_;exact ⟨i + 1,by omega,by first|omega|(simp <;> omega),qP ⟨rfl,rfl,(qS (by omega))⟩ (qV (map_next (fun s : ByteArray=>bytes (32 :: kO s.data.toList)) ByteArray.empty (by omega) _ (by rw [drop_getD];exact ref_bare (hno _ hxm) h44.1 (fun e=>h44.2 (by rw [show (ws.getD ((i : Int) + 1).toNat ByteArray.empty).data.toList.getD (Int.toNat 0) 0 = 46 from e];rfl))) [_])) rfl⟩
   ·try simp only [decide_eq_false_iff_not,Int.not_lt] at h28
    try simp only [zds] at h28
    refine qT ?_;refine qB ?_;refine qM ?_;exact sl_eq (by rw [List.take_of_length_le (by omega),← lineB_eq hsp hpos,hp0])
theorem tlines {k v : ByteArray} : (jE k v).length = (jO k.data.toList v.data.toList).length:=by unfold jE;rw [List.length_map]
theorem text_step (x e p : List UInt8) (g : ByteArray) (hg : g = bytes p) : bytes (x ++ e) ++ g ++ ⟨#[10]⟩ = bytes (x ++ (e ++ (p ++ [10]))):=by
  rw [hg,← List.append_assoc,← List.append_assoc,xS _ [10],xS _ p];rfl
theorem refFold_c (l : List Fld) (hl : ∀ f ∈ l,xD f = 0) (hn : l.length ≤ 1000) : qX Tryz.prog 95 [.one (.sl rFld l)] (is (bytes (wJ l))):=by
  refine qW (rs:=[2]) Tryz.func95 rfl rfl rfl teOk rfl ?_;refine qB ?_;refine qB ?_;refine qI ?_;refine qB ?_;refine qN ?_;refine qR (fun (i : Nat)=>i ≤ l.length) (fun (i : Nat)=>[(0,.one (.sl rFld l)),(3,is (bytes (wJ (l.take i)))),(4,ii .i64 i)]) (fun (i : Nat)=>[]) 0 (fun (i : Nat)=>l.length - i) 0 (Nat.zero_le _) (qP ⟨rfl,rfl,rfl⟩ trivial rfl) ?_;intro i hI0;have hi:=hI0;refine qI ?_;refine qB ?_;intro l3_2
  try simp only [zds] at l3_2
  refine qJ rfl (fun h10=>?_) (fun h10=>?_)
  ·try simp only [decide_eq_true_eq] at h10
   try simp only [zds] at h10
   have hlt : i < l.length:=by omega
   have hm:=hl _ (yK hlt (ByteArray.empty,ByteArray.empty));have hco:=fF hm;have hfl : (wJ (l.take i)).length ≤ 1000 * 5000000:=by refine Nat.le_trans (flat_le textL 5000000 _ fun f hf=>(eC (hl f (List.mem_of_mem_take hf))).1) (Nat.mul_le_mul_right _ (by rw [List.length_take];omega))
   refine qL ?_;refine qI ?_;refine qN ?_;refine qB ?_;refine zob ?_;refine Or.inl ?_;refine zai (rfl) ?_;refine zei _ (zai (refLines_c (l.getD i (ByteArray.empty,ByteArray.empty)) (by omega) (by omega)) ?_);intro l5_5
   try simp only [zds] at l5_5
   refine qN ?_;refine qR (fun (k : Nat)=>k ≤ (jE (l.getD i (ByteArray.empty,ByteArray.empty)).1 (l.getD i (ByteArray.empty,ByteArray.empty)).2).length) (fun (k : Nat)=>[(0,.one (.sl rFld l)),(3,is (bytes (wJ (l.take i) ++ endL ((jO (l.getD i (ByteArray.empty,ByteArray.empty)).1.data.toList (l.getD i (ByteArray.empty,ByteArray.empty)).2.data.toList).take k)))),(4,ii .i64 i),(17,.one (.sl .str (jE (l.getD i (ByteArray.empty,ByteArray.empty)).1 (l.getD i (ByteArray.empty,ByteArray.empty)).2))),(18,ii .i64 (jE (l.getD i (ByteArray.empty,ByteArray.empty)).1 (l.getD i (ByteArray.empty,ByteArray.empty)).2).length),(19,ii .i64 k)]) (fun (k : Nat)=>[]) 0 (fun (k : Nat)=>(jE (l.getD i (ByteArray.empty,ByteArray.empty)).1 (l.getD i (ByteArray.empty,ByteArray.empty)).2).length - k) 0 (Nat.zero_le _) (qP ⟨rfl,(gU (by simp [endL])),rfl,rfl,rfl,rfl⟩ trivial rfl) ?_;intro k hI2;have hk:=hI2;refine qB ?_;refine qI ?_;refine qJ rfl (fun h20=>?_) (fun h20=>?_)
   ·try simp only [decide_eq_true_eq] at h20
    try simp only [zds] at h20
    have hlk : k < (jE (l.getD i (ByteArray.empty,ByteArray.empty)).1 (l.getD i (ByteArray.empty,ByteArray.empty)).2).length:=by omega
    have hg:=lineB_get hlk;have hlk2 : k < (jO (l.getD i (ByteArray.empty,ByteArray.empty)).1.data.toList (l.getD i (ByteArray.empty,ByteArray.empty)).2.data.toList).length:=by rw [tlines] at hlk;exact hlk
    have hgs : ((jE (l.getD i (ByteArray.empty,ByteArray.empty)).1 (l.getD i (ByteArray.empty,ByteArray.empty)).2).getD k ByteArray.empty).size ≤ 2000:=by rw [hg,yR];have h2:=hco.2.1;have h3:=hco.2.2;rw [yC] at h2 h3;exact (line_len h3 h2).2 _ (yK hlk2 _)
    have hen:=(eC hm).2 k;have h10 : ByteArray.size ⟨#[10]⟩ = 1:=rfl;have hps : (bytes (wJ (l.take i) ++ endL ((jO (l.getD i (ByteArray.empty,ByteArray.empty)).1.data.toList (l.getD i (ByteArray.empty,ByteArray.empty)).2.data.toList).take k))).size ≤ 6000000000:=by rw [yR,List.length_append];omega
    have hgs' : ((jE (l.getD i (ByteArray.empty,ByteArray.empty)).1 (l.getD i (ByteArray.empty,ByteArray.empty)).2).getD (k : Int).toNat Rd.str.dflt).size ≤ 2000:=hgs;refine qL ?_;refine qI ?_;refine qN ?_;refine qB ?_;refine zob ?_;refine qH ?_;refine zai (by first|omega|(simp only [ByteArray.size_append];omega)|(unfold maxLen;(try simp only [ByteArray.size_append]);omega)) ?_;refine zai (by (have hk0 : ByteArray.size { data:=#[10] } = 1:=rfl;first|(unfold maxLen;omega)|(simp only [ByteArray.size_append];omega)|(unfold maxLen;(try simp only [ByteArray.size_append]);omega))) ?_;refine qH ?_;refine zob ?_;exact ⟨k + 1,by omega,by first|omega|(simp <;> omega),qP ⟨rfl,(gU (by rw [endL_snoc _ _ hlk2];exact text_step _ _ _ _ hg)),rfl,rfl,rfl,(qS (by omega))⟩ trivial rfl⟩
   ·try simp only [decide_eq_false_iff_not,Int.not_lt] at h20
    try simp only [zds] at h20
    refine qT ?_;refine qH ?_;refine zob ?_;exact ⟨i + 1,by omega,by first|omega|(simp <;> omega),qP ⟨rfl,(gU (by rw [foldL_snoc l i (ByteArray.empty,ByteArray.empty) hlt,show List.take k (jO (l.getD i (ByteArray.empty,ByteArray.empty)).1.data.toList (l.getD i (ByteArray.empty,ByteArray.empty)).2.data.toList) = jO (l.getD i (ByteArray.empty,ByteArray.empty)).1.data.toList (l.getD i (ByteArray.empty,ByteArray.empty)).2.data.toList from List.take_of_length_le (by rw [← tlines];omega)];rfl)),(qS (by omega))⟩ trivial rfl⟩
  ·try simp only [decide_eq_false_iff_not,Int.not_lt] at h10
   try simp only [zds] at h10
   refine qT ?_;refine qB ?_;refine qM ?_;exact gU (by rw [List.take_of_length_le (by omega)])
theorem cV {α : Type} {a b : List α} {i : Nat} (d : α) (ha : i < a.length) (hb : i < b.length) (h : a.take i = b.take i) (he : a.getD i d = b.getD i d) : a.take (i + 1) = b.take (i + 1):=by
  rw [← yE d ha,← yE d hb,h,he]
theorem ne_at {α : Type} {a b : List α} {i : Nat} (d : α) (he : a.getD i d ≠ b.getD i d) : ¬ a = b:=fun e=>he (by rw [e])
abbrev rFault : Rd (Int × Value):=.st (.int .i64) .raw
def errF (at_ n : Int) : C:=.ifc 183 (.addr rFault (at_,.iface 107 (.int .i64 n)))
def wQ (l : List ByteArray) : Prop:=l.length ≤ 1000000 ∧ (l.map (·.size)).sum ≤ 100000000
theorem sum_mem {l : List ByteArray} {s : ByteArray} (h : s ∈ l) : s.size ≤ (l.map (·.size)).sum:=by
  induction l with
  | nil=>cases h
  | cons a r ih =>
    rw [List.map_cons,List.sum_cons];rcases List.mem_cons.1 h with rfl|h
    · omega
    · have:=ih h;omega
def unfA (l : List ByteArray) : A:=if (yU (l.map ls)).2 = 0 then .tup [(true,[.lit (.string (bytes (yU (l.map ls)).1.1)),.lit (.string (bytes (yU (l.map ls)).1.2))]),(false,[.lit .nilIface])]
  else .tup [(true,[.lit (.string ⟨#[]⟩),.lit (.string ⟨#[]⟩)]),(false,[errN (yU (l.map ls)).2])]
theorem eA {l : List ByteArray} {n : Int} (h : (yU (l.map ls)).2 = n) (hn : n ≠ 0) : unfA l = .tup [(true,[.lit (.string ⟨#[]⟩),.lit (.string ⟨#[]⟩)]),(false,[errN n])]:=by
  unfold unfA;rw [if_neg (by rw [h];exact hn),h]
theorem unfA_ok {l : List ByteArray} {k v : List UInt8} (h : yU (l.map ls) = ((k,v),0)) : unfA l = .tup [(true,[.lit (.string (bytes k)),.lit (.string (bytes v))]),(false,[.lit .nilIface])]:=by
  unfold unfA;rw [if_pos (by rw [h]),h]
theorem fO (s p : List UInt8) : (Lib.trimPrefix s p).length ≤ s.length:=by
  unfold Lib.trimPrefix;split
  · rw [List.length_drop];omega
  · exact Nat.le_refl _
theorem hJ (c : UInt8) : ∀ l : List (List UInt8),(Lib.join l [c]).length ≤ (l.map (·.length)).sum + l.length
  | []=>by simp [Lib.join]
  | [a]=>by rw [Lib.join_one];simp
  | a :: b :: r=>by
    have:=hJ c (b :: r);rw [vI];simp only [List.length_append,List.length_cons,List.length_nil,List.map_cons,List.sum_cons] at this ⊢;omega
theorem map_sum_le {α : Type} (f g : α → Nat) : ∀ l : List α,(∀ x ∈ l,f x ≤ g x) → (l.map f).sum ≤ (l.map g).sum
  | [],_=>Nat.le_refl _
  | a :: r,h=>by
    simp only [List.map_cons,List.sum_cons];have:=h a (by simp);have:=map_sum_le f g r fun x hx=>h x (by simp [hx])
    omega
def moreB (s : ByteArray) : ByteArray:=bytes (Lib.trimPrefix (s.data.toList.drop 1) [46])
def firstB (s : ByteArray) : ByteArray:=bytes (Lib.trimPrefix (Lib.cut s.data.toList [58]).2.1 [32])
theorem value_join (s : ByteArray) (r : List ByteArray) : Lib.join ((firstB s :: r.map moreB).map (·.data.toList)) [10] = kN (ls s) (r.map ls):=by
  unfold kN firstB moreB;rw [List.map_cons,yN,List.map_map,List.map_map]
  congr 2
theorem value_len (s : ByteArray) (r : List ByteArray) : (kN (ls s) (r.map ls)).length ≤ s.size + (r.map (·.size)).sum + r.length + 1:=by
  unfold kN;refine Nat.le_trans (hJ 10 _) ?_;rw [List.map_cons,List.sum_cons,List.length_cons,List.map_map,List.map_map,List.length_map,List.length_map];have h1:=fO (Lib.cut (ls s) [58]).2.1 [32];have h2:=(fA (ls s) [58]).2;have h3 : s.size = (ls s).length:=yC s;have h4:=map_sum_le (((fun l : List UInt8=>l.length) ∘ (fun s : List UInt8=>Lib.trimPrefix (s.drop 1) [46])) ∘ ls) (fun s : ByteArray=>s.size) r fun x _=>by
    have h5:=fO ((ls x).drop 1) [46];have h6 : x.size = (ls x).length:=yC x;simp only [Function.comp];rw [List.length_drop] at h5;omega
  omega
theorem cutL_ok {l : List UInt8} (h : (cutL l).2.2 = true) : yJ l = 4 ∧ cutL l = Lib.cut l [58] ∧ vA (Lib.cut l [58]).1 = true:=by
  unfold cutL at h ⊢;split
  · rename_i h4;refine ⟨h4,rfl,?_⟩;have:=h4;unfold yJ at this;split at this
    · cases this
    · split at this
      · cases this
      · split at this
        · cases this
        · split at this
          · cases this
          · split at this
            · rename_i h5;rw [Bool.and_eq_true] at h5;exact h5.2
            · cases this
  · rename_i h4;rw [if_neg h4] at h;cases h
theorem cutL_no {l : List UInt8} (h : (cutL l).2.2 = false) : yJ l ≠ 4:=fun h4=>by
  unfold cutL at h;rw [if_pos h4] at h;unfold yJ at h4;split at h4
  · cases h4
  · split at h4
    · cases h4
    · split at h4
      · cases h4
      · split at h4
        · cases h4
        · split at h4
          · rename_i h5;rw [Bool.and_eq_true] at h5;rw [h] at h5;cases h5.1
          · cases h4
theorem kind3_pos {l : List UInt8} (h : yJ l = 3) : 1 ≤ l.length:=by
  cases l with
  | nil=>cases h
  | cons a r=>simp
theorem unf_form {s : ByteArray} {r : List ByteArray} (h : yJ (ls s) ≠ 4 ∨ ∃ x ∈ r,yJ (ls x) ≠ 3) : (yU ((s :: r).map ls)).2 = 2:=by
  rw [List.map_cons,yU,if_pos];rcases h with h|⟨x,hx,h⟩
  · exact .inl h
  · exact .inr (List.any_eq_true.2 ⟨ls x,List.mem_map.2 ⟨x,hx,rfl⟩,by rw [decide_eq_false h];rfl⟩)
theorem dZ {s : ByteArray} {r : List ByteArray} (h : yJ (ls s) = 4) (hr : ∀ x ∈ r,yJ (ls x) = 3) : yU ((s :: r).map ls) = if 1000 < (kN (ls s) (r.map ls)).length then (([],[]),6) else (((Lib.cut (ls s) [58]).1,kN (ls s) (r.map ls)),0):=by
  rw [List.map_cons,yU,if_neg]
  rintro (h1|h1)
  · exact h1 h
  · obtain ⟨x,hx,h2⟩:=List.any_eq_true.1 h1;obtain ⟨y,hy,rfl⟩:=List.mem_map.1 hx;rw [hr y hy] at h2;exact absurd h2 (by decide)
theorem lcut_v (s : ByteArray) (c : List UInt8 × List UInt8 × Bool) (hc : cutL s.data.toList = c) (hs : s.size ≤ 1000000000) : qX Tryz.prog 131 [is s] (cutA c):=by
  subst hc;exact lcut_c s hs
theorem iA (s : ByteArray) (n : Nat) : (s.extract n s.size).data.toList = s.data.toList.drop n:=by
  rw [uW,List.take_of_length_le (by rw [List.length_drop,yC];omega)]
theorem more_eq (s : ByteArray) : (⟨(Lib.trimPrefix (s.extract (Int.toNat 1) (s.size : Int).toNat).data.toList ({ data:=#[46] } : ByteArray).data.toList).toArray⟩ : ByteArray) = moreB s:=by
  rw [Int.toNat_natCast,show Int.toNat 1 = 1 from rfl,iA];rfl
theorem join_v (s : ByteArray) (r : List ByteArray) (h : wQ (s :: r)) : qX Tryz.prog 83 [.one (.sl .str (firstB s :: r.map moreB)),is ⟨#[10]⟩] (is (bytes (kN (ls s) (r.map ls)))):=by
  have h1:=h.1;have h2:=h.2;simp only [List.length_cons,List.map_cons,List.sum_cons] at h1 h2;have hv:=value_len s r;have:=wF (firstB s :: r.map moreB) ⟨#[10]⟩ (by simp only [List.length_cons,List.length_map];omega) (by rw [show (⟨#[10]⟩ : ByteArray).data.toList = [10] from rfl,value_join];omega);rw [show (⟨#[10]⟩ : ByteArray).data.toList = [10] from rfl,value_join] at this;exact this
theorem check_kv (k v : List UInt8) (hk : vA k = true) : xD (bytes k,bytes v) = if 1000 < v.length then 6 else 0:=by
  unfold xD;rw [if_pos (by rw [yN];exact hk),yR]
theorem unfold_c (s0 : ByteArray) (r : List ByteArray) (hl : wQ (s0 :: r)) : qX Tryz.prog 105 [.one (.sl .str (s0 :: r))] (unfA (s0 :: r)):=by
  obtain ⟨l,hl0⟩ : ∃ l,s0 :: r = l:=⟨_,rfl⟩;rw [hl0] at hl ⊢;have hsz : ∀ x ∈ l,x.size ≤ 100000000:=fun x hx=>Nat.le_trans (sum_mem hx) hl.2
  have hll:=hl.1;have hd : l.drop 1 = r:=by rw [← hl0];rfl
  have h0 : l.getD 0 ByteArray.empty = s0:=by rw [← hl0];rfl
  have hs0 : s0.size ≤ 100000000:=hsz _ (by rw [← hl0];simp);obtain ⟨c,hc⟩ : ∃ c,cutL s0.data.toList = c:=⟨_,rfl⟩;have hlen : l.length = r.length + 1:=by rw [← hl0];rfl
  have hdl : (l.drop 1).length = l.length - 1:=List.length_drop;refine yT (rs:=[.cell 2 114,.tmp 3]) Tryz.func105 rfl rfl rfl teOk rfl ?_;refine qB ?_;refine qI ?_;refine qB ?_;intro l1_1
  try simp only [zds] at l1_1
  refine qJ rfl (fun h14=>?_) (fun h14=>?_)
  ·try simp only [decide_eq_true_eq] at h14
   try simp only [zds] at h14
   exfalso;omega
  ·try simp only [decide_eq_false_iff_not] at h14
   try simp only [zds] at h14
   refine qL ?_;refine qB ?_;refine zob ?_;refine Or.inl ?_;refine zai (rfl) ?_;refine zei _ (zai ((lcut_v (l.getD 0 ByteArray.empty) c (by rw [h0];exact hc) (by rw [h0];omega))) ?_);refine qI ?_;refine qB ?_;refine qJ rfl (fun h26=>?_) (fun h26=>?_)
   ·try simp only [Bool.not_eq_true'] at h26
    try simp only [zds] at h26
    refine qB ?_;refine qM ?_;rw [eA (n:=2) (by rw [← hl0];exact unf_form (.inl (cutL_no (by rw [show ls s0 = s0.data.toList from rfl,hc];exact h26)))) (by decide)];rfl
   ·try simp only [Bool.not_eq_false'] at h26
    try simp only [zds] at h26
    have hco : (cutL s0.data.toList).2.2 = true:=by rw [hc];exact h26
    obtain ⟨hk4,hcc,hko⟩:=cutL_ok hco;have hcl : c = Lib.cut s0.data.toList [58]:=by rw [← hc,hcc]
    refine qL ?_;refine qB ?_;refine Or.inl ?_;refine zai (rfl) ?_;refine zei _ (zai (eB _ _) ?_);refine qI ?_;refine qB ?_;refine zob ?_;intro l7_2
    try simp only [zds] at l7_2
    refine qN ?_;refine qR (fun (i : Nat)=>i ≤ (l.drop 1).length ∧ ∀ x ∈ (l.drop 1).take i,yJ (ls x) = 3) (fun (i : Nat)=>[(2,.one (.own 0 0)),(4,is (bytes c.1)),(7,.one (.vec 1)),(33,.one (.sl .str (l.drop 1))),(34,ii .i64 (l.drop 1).length),(35,ii .i64 i)]) (fun (i : Nat)=>[(0,.box 114 [.lit (.string ⟨#[]⟩),.lit (.string ⟨#[]⟩)]),(1,.vec 9 .str (firstB s0 :: ((l.drop 1).take i).map moreB))]) 2 (fun (i : Nat)=>(l.drop 1).length - i) 0 (⟨Nat.zero_le _,by simp⟩) (qP ⟨rfl,rfl,rfl,rfl,rfl,rfl⟩ ⟨rfl,(qV (by rw [List.take_zero,List.map_nil,yN,hcl];rfl))⟩ rfl) ?_;intro i hI0;obtain ⟨hi,hall⟩:=hI0;refine qB ?_;refine qI ?_;refine qJ rfl (fun h36=>?_) (fun h36=>?_)
    ·try simp only [decide_eq_true_eq] at h36
     try simp only [zds] at h36
     have hlt : i < (l.drop 1).length:=by omega
     have hm:=List.mem_of_mem_drop (yK hlt ByteArray.empty);have hms:=hsz _ hm;refine qL ?_;refine qI ?_;refine qN ?_;refine qB ?_;refine zob ?_;refine qI ?_;refine qB ?_;refine Or.inl ?_;refine zai (rfl) ?_;refine zei _ (zai (dJ ((l.drop 1).getD i ByteArray.empty) (by omega)) ?_);refine qJ rfl (fun h41=>?_) (fun h41=>?_)
     ·try simp only [decide_eq_false_iff_not,Bool.not_eq_true'] at h41
      try simp only [zds] at h41
      refine qB ?_;refine qM ?_;rw [eA (n:=2) (by rw [← hl0];exact unf_form (.inr ⟨_,by rw [← hd];exact yK hlt ByteArray.empty,h41⟩)) (by decide)];rfl
     ·try simp only [decide_eq_true_eq,Bool.not_eq_false'] at h41
      try simp only [zds] at h41
      have h1:=kind3_pos h41;have hz:=yC ((l.drop 1).getD i ByteArray.empty);refine qL ?_;refine qH ?_;refine zai (by first|omega|assumption|decide|(simp only [Int.toNat_natCast,qE];omega)|(simp <;> omega)) ?_;refine Or.inl ?_;refine zai (rfl) ?_;refine zei _ (zai (eB _ _) ?_);refine zai (by first|exact qQ (by first|omega|(simp only [List.length_cons,List.length_nil,List.length_map,List.length_take,List.length_drop];omega)|(simp;omega)) (by decide)|omega|assumption|decide|(simp only [zds];omega)|(simp <;> omega)) ?_;refine qH ?_;refine zob ?_;exact ⟨i + 1,⟨by omega,by rw [← yE ByteArray.empty hlt];intro f hf;rcases List.mem_append.1 hf with h|h;exact hall f h;rw [List.mem_singleton.1 h];exact h41⟩,by first|omega|(simp <;> omega),qP ⟨rfl,rfl,rfl,rfl,rfl,(qS (by omega))⟩ ⟨rfl,(qV (map_next moreB ByteArray.empty hlt _ (more_eq _) [_]))⟩ rfl⟩
    ·try simp only [decide_eq_false_iff_not,Int.not_lt] at h36
     try simp only [zds] at h36
     rw [List.take_of_length_le (by omega)] at hall ⊢;rw [hd] at hall ⊢;refine qT ?_;refine qB ?_;refine Or.inl ?_;refine zai (rfl) ?_;refine zei _ (zai (join_v s0 r (by rw [hl0];exact hl)) ?_);refine qI ?_;refine qI ?_
     by_cases hv : 1000 < (kN (ls s0) (r.map ls)).length
     ·refine qH ?_;refine Or.inl ?_;refine zai (rfl) ?_;refine zei _ (zai ((gY (bytes c.1,bytes (kN (ls s0) (r.map ls))) 6 (by rw [yR];have:=(fA s0.data.toList [58]).1;rw [hcl];rw [yC] at hs0;omega) (by rw [check_kv _ _ (by rw [hcl];exact hko),if_pos hv]) : qX _ _ _ (.one (errN 6)))) ?_);refine qB ?_;refine qJ rfl (fun h58=>?_) (fun h58=>?_)
      ·skip
       refine qB ?_;refine qM ?_;rw [eA (n:=6) (by rw [← hl0,dZ hk4 hall,if_pos hv]) (by decide)];rfl
      ·try simp only [zbq] at h58
       try simp only [zds] at h58
       cases h58
     ·refine qH ?_;refine Or.inl ?_;refine zai (rfl) ?_;refine zei _ (zai ((gY (bytes c.1,bytes (kN (ls s0) (r.map ls))) 0 (by rw [yR];have:=(fA s0.data.toList [58]).1;rw [hcl];rw [yC] at hs0;omega) (by rw [check_kv _ _ (by rw [hcl];exact hko),if_neg hv]) : qX _ _ _ (.one (.lit .nilIface)))) ?_);refine qB ?_;refine qJ rfl (fun h58=>?_) (fun h58=>?_)
      ·try simp only [Bool.not_eq_true'] at h58
       try simp only [zds] at h58
       cases h58
      ·try simp only [Bool.not_eq_false'] at h58
       try simp only [zds] at h58
       refine qL ?_;refine qB ?_;refine qM ?_;rw [unfA_ok (k:=c.1) (v:=kN (ls s0) (r.map ls)) (by rw [← hl0,dZ hk4 hall,if_neg hv,hcl])];rfl
theorem unfold_e : qX Tryz.prog 105 [.one (.sl .str [])] (unfA []):=by
  refine yT (rs:=[.cell 2 114,.tmp 3]) Tryz.func105 rfl rfl rfl teOk rfl ?_;refine qB ?_;refine qI ?_;refine qB ?_;intro l1_1
  try simp only [zds] at l1_1
  refine qJ rfl (fun h14=>?_) (fun h14=>?_)
  ·try simp only [decide_eq_true_eq] at h14
   try simp only [zds] at h14
   refine qB ?_;refine qM ?_;rfl
  ·try simp only [decide_eq_false_iff_not] at h14
   try simp only [zds] at h14
   exact absurd rfl h14
theorem unfold_a (l : List ByteArray) (hl : wQ l) : qX Tryz.prog 105 [.one (.sl .str l)] (unfA l):=by
  cases l with
  | nil=>exact unfold_e
  | cons s r=>exact unfold_c s r hl
theorem kind4_key {l : List UInt8} (h4 : yJ l = 4) : 10 ∉ l ∧ ((Lib.cut l [58]).2.2 && vA (Lib.cut l [58]).1) = true:=by
  unfold yJ at h4;split at h4
  · cases h4
  · rename_i h10;refine ⟨h10,?_⟩;split at h4
    · cases h4
    · split at h4
      · cases h4
      · split at h4
        · cases h4
        · split at h4
          · rename_i h5;exact h5
          · cases h4
theorem fN (L : List (List UInt8)) : (∃ n,(n = 2 ∨ n = 6) ∧ yU L = (([],[]),n)) ∨ ∃ k v,yU L = ((k,v),0) ∧ vA k = true ∧ v.length ≤ 1000:=by
  cases L with
  | nil=>exact .inl ⟨2,.inl rfl,rfl⟩
  | cons a r =>
    rw [yU];split
    · exact .inl ⟨2,.inl rfl,rfl⟩
    · rename_i h1;split
      · exact .inl ⟨6,.inr rfl,rfl⟩
      · rename_i h2;have h4 : yJ a = 4:=Classical.not_not.1 fun h=>h1 (.inl h)
        have:=(kind4_key h4).2;rw [Bool.and_eq_true] at this;exact .inr ⟨_,_,rfl,this.2,by omega⟩
theorem unfold_bad (l : List ByteArray) (hl : wQ l) {n : Int} (h : yU (l.map ls) = (([],[]),n)) (hn : n = 2 ∨ n = 6) : qX Tryz.prog 105 [.one (.sl .str l)] (.tup [(true,[.lit (.string ⟨#[]⟩),.lit (.string ⟨#[]⟩)]),(false,[errN n])]):=by
  have:=unfold_a l hl;rw [eA (n:=n) (by rw [h]) (by rcases hn with rfl|rfl <;> decide)] at this;exact this
theorem unfold_ok (l : List ByteArray) (hl : wQ l) {k v : List UInt8} (h : yU (l.map ls) = ((k,v),0)) : qX Tryz.prog 105 [.one (.sl .str l)] (.tup [(true,[.lit (.string (bytes k)),.lit (.string (bytes v))]),(false,[.lit .nilIface])]):=by
  have:=unfold_a l hl;rw [unfA_ok h] at this;exact this
theorem kind3_two {l : List UInt8} (h : yJ l = 3) : 2 ≤ l.length:=by
  match l with
  | []=>cases h
  | [a] =>
    exfalso
    unfold yJ at h;split at h
    · cases h
    · split at h
      · cases h
      · rename_i h2;split at h
        · cases h
        · split at h
          · rename_i h4;unfold aR at h4;simp at h2 h4;rw [h4] at h2;cases h2
          · split at h <;> cases h
  | a :: b :: r=>simp
theorem valueL_snoc (s : List UInt8) (r : List (List UInt8)) (x : List UInt8) : kN s (r ++ [x]) = kN s r ++ ([10] ++ Lib.trimPrefix (x.drop 1) [46]):=by
  unfold kN;rw [List.map_append,List.map_cons,List.map_nil,← List.cons_append,cO _ _ (by simp)]
theorem trimP_yes {c : UInt8} {l : List UInt8} (h : 0 < l.length) (hc : l.getD 0 0 = c) : Lib.trimPrefix l [c] = l.drop 1:=by
  unfold Lib.trimPrefix;rw [if_pos]
  · rfl
  · rw [jT];cases l with
    | nil=>cases h
    | cons a b=>simp only [List.getD_cons_zero] at hc;rw [hc];simp
theorem trimP_no {c : UInt8} {l : List UInt8} (hc : l.getD 0 0 ≠ c ∨ l = []) : Lib.trimPrefix l [c] = l:=by
  unfold Lib.trimPrefix;rw [if_neg];rw [jT];cases l with
  | nil=>simp
  | cons a b =>
    rcases hc with hc|hc
    · simp only [List.getD_cons_zero] at hc;simp [hc]
    · cases hc
def refUnfA (l : List ByteArray) : A:=.tup [(true,[.lit (.string (bytes (yU (l.map ls)).1.1)),.lit (.string (bytes (yU (l.map ls)).1.2))]),(false,[.lit (.int .i64 (yU (l.map ls)).2)])]
theorem aF {l : List ByteArray} {k v : List UInt8} {n : Int} (h : yU (l.map ls) = ((k,v),n)) : refUnfA l = .tup [(true,[.lit (.string (bytes k)),.lit (.string (bytes v))]),(false,[.lit (.int .i64 n)])]:=by
  unfold refUnfA;rw [h]
theorem unf_form2 {s : ByteArray} {r : List ByteArray} (h : yJ (ls s) ≠ 4 ∨ ∃ x ∈ r,yJ (ls x) ≠ 3) : yU ((s :: r).map ls) = (([],[]),2):=by
  rw [List.map_cons,yU,if_pos];rcases h with h|⟨x,hx,h⟩
  · exact .inl h
  · exact .inr (List.any_eq_true.2 ⟨ls x,List.mem_map.2 ⟨x,hx,rfl⟩,by rw [decide_eq_false h];rfl⟩)
theorem take_map_ls (r : List ByteArray) (i : Nat) (h : i < r.length) : (r.take (i + 1)).map ls = (r.take i).map ls ++ [ls (r.getD i ByteArray.empty)]:=by
  rw [← yE ByteArray.empty h,List.map_append];rfl
theorem ext1 (s : ByteArray) : s.extract (Int.toNat 1) (s.size : Int).toNat = bytes (s.data.toList.drop 1):=by
  rw [Int.toNat_natCast,show Int.toNat 1 = 1 from rfl];exact ls_inj (iA s 1)
theorem ext1' (s : ByteArray) : s.extract (Int.toNat 1) s.size = bytes (s.data.toList.drop 1):=ext1 s
theorem refUnfold_e : qX Tryz.prog 53 [.one (.sl .str [])] (refUnfA []):=by
  refine yT (rs:=[.cell 2 114,.tmp 3]) Tryz.func53 rfl rfl rfl teOk rfl ?_;refine qB ?_;refine qI ?_;refine qB ?_;intro l1_1
  try simp only [zds] at l1_1
  refine zai (fun h=>trivial) ?_;refine zai (fun h=>⟨⟨⟨h,trivial⟩,trivial⟩,by exact absurd h (by decide)⟩) ?_;refine zai (fun h=>⟨⟨h,trivial⟩,trivial⟩) ?_;refine Or.inl ?_;refine zai (rfl) ?_;refine zei _ (zai (fun h=>⟨⟨⟨h,trivial⟩,trivial⟩,(absurd h (by decide) : qX _ _ _ (ii .i64 0))⟩) ?_);refine zai (fun h=>⟨⟨h,trivial⟩,trivial⟩) ?_;refine zai (by first|(intro h;rw [h];rfl)|(intro h;cases h)) ?_;refine qJ rfl (fun h18=>?_) (fun h18=>?_)
  ·try simp only [decide_eq_true_eq,decide_eq_false_iff_not,Bool.not_eq_true',Bool.or_eq_true] at h18
   try simp only [zds] at h18
   refine qB ?_;refine qM ?_;rfl
  ·try simp only [decide_eq_true_eq,decide_eq_false_iff_not,Bool.not_eq_false',Bool.or_eq_false_iff] at h18
   try simp only [zds] at h18
   exact absurd h18.1 (by decide)
theorem refUnfold_c (s0 : ByteArray) (r : List ByteArray) (hl : wQ (s0 :: r)) : qX Tryz.prog 53 [.one (.sl .str (s0 :: r))] (refUnfA (s0 :: r)):=by
  obtain ⟨l,hl0⟩ : ∃ l,s0 :: r = l:=⟨_,rfl⟩;rw [hl0] at hl ⊢;have hsz : ∀ x ∈ l,x.size ≤ 100000000:=fun x hx=>Nat.le_trans (sum_mem hx) hl.2
  have hll:=hl.1;have h0 : l.getD 0 ByteArray.empty = s0:=by rw [← hl0];rfl
  have hget : ∀ i,l.getD (i + 1) ByteArray.empty = r.getD i ByteArray.empty:=fun i=>by rw [← hl0];rfl
  have hs0 : s0.size ≤ 100000000:=hsz _ (by rw [← hl0];simp);have hz0:=yC s0;have hlen : l.length = r.length + 1:=by rw [← hl0];rfl
  obtain ⟨c,hc⟩ : ∃ c,Lib.cut s0.data.toList [58] = c:=⟨_,rfl⟩;have hcl:=(fA s0.data.toList [58]);rw [hc] at hcl;obtain ⟨v0,hv0⟩ : ∃ v,Lib.trimPrefix c.2.1 [32] = v:=⟨_,rfl⟩;have hval0 : kN (ls s0) ((r.take 0).map ls) = v0:=by
    unfold kN;rw [← hv0,← hc];simp [Lib.join_one]
  have hvl : ∀ i,i ≤ r.length → (kN (ls s0) ((r.take i).map ls)).length ≤ 300000000:=fun i hi=>by
    have h1:=value_len s0 (r.take i);have h2:=hl.2;rw [← hl0,List.map_cons,List.sum_cons] at h2;have h3 : ((r.take i).map (·.size)).sum ≤ (r.map (·.size)).sum:=by
      conv=>rhs;rw [← List.take_append_drop i r,List.map_append,List.sum_append]
      omega
    rw [List.length_take] at h1;omega
  refine yT (rs:=[.cell 2 114,.tmp 3]) Tryz.func53 rfl rfl rfl teOk rfl ?_;refine qB ?_;refine qI ?_;refine qB ?_;intro l1_1
  try simp only [zds] at l1_1
  refine zai (fun h=>trivial) ?_;refine zai (fun h=>⟨⟨⟨h,trivial⟩,trivial⟩,by (rw [hlen];omega)⟩) ?_;refine zai (fun h=>⟨⟨h,trivial⟩,trivial⟩) ?_;refine Or.inl ?_;refine zai (rfl) ?_;refine zei _ (zai (fun h=>⟨⟨⟨h,trivial⟩,trivial⟩,cF (l.getD 0 ByteArray.empty) (by rw [h0];omega)⟩) ?_);refine zai (fun h=>⟨⟨h,trivial⟩,trivial⟩) ?_;refine zai (by first|(intro h;rw [h];rfl)|(intro h;cases h)) ?_;refine qJ rfl (fun h18=>?_) (fun h18=>?_)
  ·try simp only [decide_eq_true_eq,decide_eq_false_iff_not,Bool.not_eq_true',Bool.or_eq_true] at h18
   try simp only [zds] at h18
   have hk : yJ (ls s0) ≠ 4:=by rcases h18 with h|h;exfalso;omega;rw [h0] at h;exact h
   refine qB ?_;refine qM ?_;rw [← hl0,aF (unf_form2 (.inl hk))];rfl
  ·try simp only [decide_eq_true_eq,decide_eq_false_iff_not,Bool.not_eq_false',Bool.or_eq_false_iff] at h18
   try simp only [zds] at h18
   have hk4 : yJ (ls s0) = 4:=by have:=h18.2;rw [h0] at this;exact this
   obtain ⟨h10,hkk⟩:=kind4_key hk4;refine qL ?_;refine qB ?_;refine zai (by omega) ?_;refine Or.inl ?_;refine zai (rfl) ?_;refine zei _ (zai ((refCut_v (l.getD 0 ByteArray.empty) c (by rw [h0];unfold vH;rw [if_neg h10,if_pos (by exact hkk)];exact hc) (by rw [h0];omega))) ?_);refine jJ (fun (u : Unit)=>True) (fun (u : Unit)=>[(0,.one (.sl .str l)),(2,.one (.own 0 0)),(4,is (bytes c.1)),(5,is (bytes v0))]) (fun (u : Unit)=>[(0,.box 114 [.lit (.string ⟨#[]⟩),.lit (.string ⟨#[]⟩)])]) 1 ?_ ?_
   ·refine qB ?_;refine zai (fun h=>trivial) ?_;refine zai (fun h=>⟨⟨⟨h,trivial⟩,trivial⟩,by (have:=of_decide_eq_true (by simpa [gq] using h);omega)⟩) ?_;refine zai (fun h=>⟨⟨h,trivial⟩,trivial⟩) ?_;refine zai (by exact fun h=>h) ?_;refine qJ rfl (fun h35=>?_) (fun h35=>?_)
    ·try simp only [decide_eq_true_eq,Bool.and_eq_true] at h35
     try simp only [zds] at h35
     refine qH ?_;refine zob ?_;exact ⟨(),trivial,qP ⟨rfl,rfl,rfl,(gU (by rw [ext1,yN,← hv0,trimP_yes (by have:=h35.1;rw [yR] at this;omega) (aY (b:=32) (by have:=h35.2;rw [yN] at this;exact this))]))⟩ rfl rfl⟩
    ·try simp only [decide_eq_false_iff_not,Bool.and_eq_false_iff,Int.not_lt] at h35
     try simp only [zds] at h35
     refine qL ?_;exact ⟨(),trivial,qP ⟨rfl,rfl,rfl,(gU (by rw [← hv0,trimP_no (h35.elim (fun h=>.inr (List.eq_nil_of_length_eq_zero (by rw [yR] at h;omega))) (fun h=>.inl (fun e=>h (by rw [yN];rw [show c.2.1.getD (Int.toNat 0) 0 = 32 from e];rfl))))]))⟩ rfl rfl⟩
   ·intro u hcut6;refine qI ?_;refine qB ?_;refine qN ?_;refine qR (fun (i : Nat)=>i ≤ r.length ∧ ∀ x ∈ r.take i,yJ (ls x) = 3) (fun (i : Nat)=>[(0,.one (.sl .str l)),(2,.one (.own 0 0)),(4,is (bytes c.1)),(5,is (bytes (kN (ls s0) ((r.take i).map ls)))),(7,ii .i64 ((i : Int) + 1))]) (fun (i : Nat)=>[(0,.box 114 [.lit (.string ⟨#[]⟩),.lit (.string ⟨#[]⟩)])]) 1 (fun (i : Nat)=>r.length - i) 0 (⟨Nat.zero_le _,by simp⟩) (qP ⟨rfl,rfl,rfl,(gU (by rw [hval0])),rfl⟩ rfl rfl) ?_;intro i hI0;obtain ⟨hi,hall⟩:=hI0;refine qI ?_;refine qB ?_;intro l7_2
    try simp only [zds] at l7_2
    refine qJ rfl (fun h41=>?_) (fun h41=>?_)
    ·try simp only [decide_eq_true_eq] at h41
     try simp only [zds] at h41
     have hlt : i < r.length:=by omega
     have hgi : l.getD ((i : Int) + 1).toNat ByteArray.empty = r.getD i ByteArray.empty:=by rw [show ((i : Int) + 1).toNat = i + 1 by omega,hget]
     have hm : r.getD i ByteArray.empty ∈ l:=by rw [← hl0];exact List.mem_cons_of_mem _ (yK hlt _)
     have hms:=hsz _ hm;refine qL ?_;refine qI ?_;refine qN ?_;refine qI ?_;refine qB ?_;refine zob ?_;refine Or.inl ?_;refine zai (rfl) ?_;refine zei _ (zai (cF (l.getD ((i : Int) + 1).toNat ByteArray.empty) (by rw [hgi];omega)) ?_);refine qJ rfl (fun h49=>?_) (fun h49=>?_)
     ·try simp only [decide_eq_false_iff_not,Bool.not_eq_true'] at h49
      try simp only [zds] at h49
      rw [hgi] at h49;refine qB ?_;refine qM ?_;rw [← hl0,aF (unf_form2 (.inr ⟨_,yK hlt ByteArray.empty,h49⟩))];rfl
     ·try simp only [decide_eq_true_eq,Bool.not_eq_false'] at h49
      try simp only [zds] at h49
      rw [hgi] at h49;have h2:=kind3_two h49;have hz:=yC (r.getD i ByteArray.empty);have hgs : (l.getD ((i : Int) + 1).toNat Rd.str.dflt).size = (r.getD i ByteArray.empty).size:=congrArg ByteArray.size hgi;refine qL ?_;refine qB ?_;refine zob ?_;refine zob ?_;refine jJ (fun (u : Unit)=>True) (fun (u : Unit)=>[(0,.one (.sl .str l)),(2,.one (.own 0 0)),(4,is (bytes c.1)),(5,is (bytes (kN (ls s0) ((r.take i).map ls)))),(7,ii .i64 ((i : Int) + 1)),(8,is (bytes (Lib.trimPrefix ((ls (r.getD i ByteArray.empty)).drop 1) [46])))]) (fun (u : Unit)=>[(0,.box 114 [.lit (.string ⟨#[]⟩),.lit (.string ⟨#[]⟩)])]) 1 ?_ ?_
      ·refine qB ?_;refine zai (by (rw [show l.getD ((i : Int) + 1).toNat Rd.str.dflt = r.getD i ByteArray.empty from hgi,ext1,yR,List.length_drop];omega)) ?_;refine qJ rfl (fun h58=>?_) (fun h58=>?_)
       ·try simp only [decide_eq_true_eq] at h58
        try simp only [Int.toNat_natCast,qE] at h58
        refine qH ?_;refine zai (by (rw [show l.getD ((i : Int) + 1).toNat Rd.str.dflt = r.getD i ByteArray.empty from hgi,ext1,yR,List.length_drop];omega)) ?_;exact ⟨(),trivial,qP ⟨rfl,rfl,rfl,rfl,rfl,(gU (by rw [show l.getD ((i : Int) + 1).toNat Rd.str.dflt = r.getD i ByteArray.empty from hgi,ext1,ext1,yN,trimP_yes (by rw [List.length_drop];exact Nat.sub_pos_of_lt h2) (aY (b:=46) (by rw [hgi,ext1',yN] at h58;exact h58))]))⟩ rfl rfl⟩
       ·try simp only [decide_eq_false_iff_not] at h58
        try simp only [Int.toNat_natCast,qE] at h58
        refine qL ?_;exact ⟨(),trivial,qP ⟨rfl,rfl,rfl,rfl,rfl,(gU (by rw [show l.getD ((i : Int) + 1).toNat Rd.str.dflt = r.getD i ByteArray.empty from hgi,ext1,trimP_no (.inl (fun e=>h58 (by rw [hgi,ext1',yN,show (List.drop 1 (r.getD i ByteArray.empty).data.toList).getD (Int.toNat 0) 0 = 46 from e];rfl)))]))⟩ rfl rfl⟩
      ·intro u hcut14;have hvb : (bytes (kN (ls s0) ((r.take i).map ls))).size ≤ 300000000:=by rw [yR];exact hvl i hi
       have htb : (bytes (Lib.trimPrefix ((ls (r.getD i ByteArray.empty)).drop 1) [46])).size ≤ 100000000:=by rw [yR];have h1:=fO ((ls (r.getD i ByteArray.empty)).drop 1) [46];have h3 : (ls (r.getD i ByteArray.empty)).length = (r.getD i ByteArray.empty).size:=(yC _).symm;rw [List.length_drop] at h1;omega
       have hk10 : ByteArray.size ⟨#[10]⟩ = 1:=rfl;refine qH ?_;refine zai (by (have hk0 : ByteArray.size { data:=#[10] } = 1:=rfl;first|(unfold maxLen;omega)|(simp only [ByteArray.size_append];omega)|(unfold maxLen;(try simp only [ByteArray.size_append]);omega))) ?_;refine zai (by (have hk0 : ByteArray.size { data:=#[10] } = 1:=rfl;first|(unfold maxLen;omega)|(simp only [ByteArray.size_append];omega)|(unfold maxLen;(try simp only [ByteArray.size_append]);omega))) ?_;refine qH ?_;refine zob ?_;exact ⟨i + 1,⟨by omega,by rw [← yE ByteArray.empty hlt];intro f hf;rcases List.mem_append.1 hf with h|h;exact hall f h;rw [List.mem_singleton.1 h];exact h49⟩,by first|omega|(simp <;> omega),qP ⟨rfl,rfl,rfl,(gU (by rw [take_map_ls r i hlt,valueL_snoc,xS,xS,ByteArray.append_assoc];rfl)),(qS (by omega))⟩ rfl rfl⟩
    ·try simp only [decide_eq_false_iff_not,Int.not_lt] at h41
     try simp only [zds] at h41
     rw [List.take_of_length_le (by omega)] at hall ⊢;have hvr:=hvl r.length (Nat.le_refl _);refine qT ?_;refine qI ?_;refine qB ?_;refine qJ rfl (fun h67=>?_) (fun h67=>?_)
     ·try simp only [decide_eq_true_eq] at h67
      try simp only [zds] at h67
      refine qB ?_;refine qM ?_;rw [← hl0,aF (by rw [dZ hk4 hall,if_pos (by rw [yR] at h67;omega)])];rfl
     ·try simp only [decide_eq_false_iff_not,Int.not_lt] at h67
      try simp only [zds] at h67
      refine qL ?_;refine qB ?_;refine qM ?_;rw [← hl0,aF (by rw [dZ hk4 hall,if_neg (by rw [yR] at h67;omega),show Lib.cut (ls s0) [58] = c from hc])];rfl
end Q
end Ab
end Go.Proofs.YtmaekcmknibmeaaGreatDoor
namespace Go.Proofs.YtmaekcmknibmeaaGreatDoor
open Go.RowKit
namespace Ab
set_option maxRecDepth 100000
abbrev Itm:=Int × ByteArray × List Fld
abbrev rItm : Rd Itm:=.st (.int .i64) (.st .str (.sl rFld))
abbrev Lne:=Int × Int × ByteArray × Bool
abbrev rLne : Rd Lne:=.st (.int .i64) (.st (.int .i64) (.st .str .bool))
namespace Q
structure PSt where
  lns : List ByteArray
  frm : Int
  full : Bool
  its : List Itm
  blk : List ByteArray
  flds : List Fld
  recs : Int
def kD (p : PSt) : (Int × Int) ⊕ PSt :=
  if p.lns = [] then .inr p
  else if (yU (p.lns.map ls)).2 ≠ 0 then .inl (p.frm,(yU (p.lns.map ls)).2)
  else if p.full = true then .inl (p.frm,11)
  else .inr { p with flds:=p.flds ++ [(bytes (yU (p.lns.map ls)).1.1,bytes (yU (p.lns.map ls)).1.2)],lns:=[] }
def rawB (blk : List ByteArray) : ByteArray:=bytes (Lib.join (blk.map (·.data.toList)) [10]) ++ ⟨#[10]⟩
def bV (q : PSt) : PSt :=
  if q.blk = [] then { q with blk:=[],flds:=[] }
  else { q with its:=q.its ++ [((if q.flds = [] then 2 else 3 : Int),rawB q.blk,q.flds)],recs:=if q.flds = [] then q.recs else q.recs + 1,blk:=[],flds:=[] }
def endS (p : PSt) : (Int × Int) ⊕ PSt:=match kD p with
  | .inl e=>.inl e
  | .inr q=>.inr (bV q)
def jH (p : PSt) (l : Lne) : PSt:={ p with lns:=[l.2.2.1],frm:=l.1,full:=decide ((p.flds.length : Int) = 40) || (decide ((p.flds.length : Int) = 0) && decide (p.recs = 400)) }
def kE (p : PSt) (l : Lne) (kind : Int) : (Int × Int) ⊕ PSt :=
  if kind = 3 then
    if p.lns = [] then .inl (l.1,2)
    else if l.2.2.2 = true then .inr { p with lns:=p.lns ++ [l.2.2.1] }
    else kD { p with lns:=p.lns ++ [l.2.2.1] }
  else if kind = 1 then endS p
  else kD p
def gF (q : PSt) (l : Lne) (kind : Int) : (Int × Int) ⊕ PSt :=
  if kind = 5 ∨ l.2.2.2 = false then .inl (l.1,2)
  else if kind = 1 then .inr { q with its:=q.its ++ [(1,l.2.2.1 ++ ⟨#[10]⟩,[])] }
  else if kind = 4 then .inr { jH q l with blk:=q.blk ++ [l.2.2.1] }
  else .inr { q with blk:=q.blk ++ [l.2.2.1] }
def xY (p : PSt) (l : Lne) : (Int × Int) ⊕ PSt:=match kE p l (yJ (ls l.2.2.1)) with
  | .inl e=>.inl e
  | .inr q=>gF q l (yJ (ls l.2.2.1))
structure PB (p : PSt) (B : Nat) : Prop where
  lns : p.lns.length ≤ B
  lnb : (p.lns.map (·.size)).sum ≤ B
  its : p.its.length ≤ B
  blk : p.blk.length ≤ B
  blb : (p.blk.map (·.size)).sum ≤ B
  flds : p.flds.length ≤ B
  rec0 : 0 ≤ p.recs
  recB : p.recs ≤ B
theorem PB.mono {p : PSt} {B B' : Nat} (h : PB p B) (hB : B ≤ B') : PB p B' :=
  ⟨by have:=h.lns;omega,by have:=h.lnb;omega,by have:=h.its;omega,by have:=h.blk;omega,by have:=h.blb;omega,by have:=h.flds;omega,h.rec0,by have:=h.recB;omega⟩
theorem eT {p q : PSt} {B : Nat} (h : PB p B) (hf : kD p = .inr q) : PB q (B + 1):=by
  unfold kD at hf;split at hf
  · cases hf;exact h.mono (by omega)
  · split at hf
    · cases hf
    · split at hf
      · cases hf
      · cases hf;have:=h.flds;exact ⟨by simp,by simp,by have:=h.its;simp only;omega,by have:=h.blk;simp only;omega,by have:=h.blb;simp only;omega,by simp;omega,h.rec0,by have:=h.recB;simp only;omega⟩
theorem closeS_B {p : PSt} {B : Nat} (h : PB p B) : PB (bV p) (B + 1):=by
  have h1:=h.lns;have h2:=h.lnb;have h3:=h.its;have h4:=h.rec0;have h5:=h.recB;unfold bV;split
  · exact ⟨by simp only;omega,by simp only;omega,by simp only;omega,by simp,by simp,by simp,h4,by simp only;omega⟩
  · refine ⟨by simp only;omega,by simp only;omega,by simp;omega,by simp,by simp,by simp,?_,?_⟩
    · simp only;split <;> omega
    · simp only;split <;> omega
theorem endS_B {p q : PSt} {B : Nat} (h : PB p B) (hf : endS p = .inr q) : PB q (B + 2):=by
  unfold endS at hf;split at hf
  · cases hf
  · rename_i r e;cases hf;exact closeS_B (eT h e)
theorem bL {p : PSt} {B : Nat} (s : ByteArray) (h : PB p B) : PB { p with lns:=p.lns ++ [s] } (B + 1 + s.size):=by
  have h1:=h.lns;have h2:=h.lnb;have h3:=h.its;have h5:=h.recB;have h6:=h.blk;have h7:=h.blb;have h8:=h.flds;exact ⟨by simp;omega,by simp;omega,by simp only;omega,by simp only;omega,by simp only;omega,by simp only;omega,h.rec0,by simp only;omega⟩
theorem aheadS_B {p q : PSt} {B : Nat} {l : Lne} {k : Int} (h : PB p B) (hf : kE p l k = .inr q) : PB q (B + 2 + l.2.2.1.size):=by
  unfold kE at hf;split at hf
  · split at hf
    · cases hf
    · split at hf
      · cases hf;exact (bL _ h).mono (by omega)
      · exact (eT (bL _ h) hf).mono (by omega)
  · split at hf
    · exact (endS_B h hf).mono (by omega)
    · exact (eT h hf).mono (by omega)
theorem lineS_B {p q : PSt} {B : Nat} {l : Lne} {k : Int} (h : PB p B) (hs : l.2.2.1.size ≤ B) (_hB : 1 ≤ B) (hf : gF p l k = .inr q) : PB q (B + 1 + l.2.2.1.size):=by
  have h1:=h.lns;have h2:=h.lnb;have h3:=h.its;have h5:=h.recB;have h6:=h.blk;have h7:=h.blb;have h8:=h.flds;unfold gF at hf;split at hf
  · cases hf
  · split at hf
    · cases hf;exact ⟨by simp only;omega,by simp only;omega,by simp;omega,by simp only;omega,by simp only;omega,by simp only;omega,h.rec0,by simp only;omega⟩
    · split at hf
      · cases hf;exact ⟨by simp [jH];omega,by simp [jH],by simp only [jH];omega,by simp;omega,by simp;omega,by simp only [jH];omega,h.rec0,by simp only [jH];omega⟩
      · cases hf;exact ⟨by simp only;omega,by simp only;omega,by simp only;omega,by simp;omega,by simp;omega,by simp only;omega,h.rec0,by simp only;omega⟩
theorem takeS_B {p q : PSt} {B : Nat} {l : Lne} (h : PB p B) (hf : xY p l = .inr q) : PB q (B + 3 + 2 * l.2.2.1.size):=by
  unfold xY at hf;split at hf
  · cases hf
  · rename_i r e;exact (lineS_B (aheadS_B h e) (by omega) (by omega) hf).mono (by omega)
def pst0 : PSt:=⟨[],0,false,[],[],[],0⟩
end Q
end Ab
end Go.Proofs.YtmaekcmknibmeaaGreatDoor
namespace Go.Proofs.YtmaekcmknibmeaaGreatDoor
open Go.RowKit
namespace Ab
set_option maxRecDepth 100000
namespace Q
theorem fault_c (at_ n : Int) : qX Tryz.prog 80 [ii .i64 at_,.one (errN n)] (.one (errF at_ n)):=by
  refine qW (rs:=[4]) Tryz.func80 rfl rfl rfl teOk rfl ?_;refine qB ?_;refine qB ?_;refine qM ?_;rfl
def psO (p : PSt) : Obs:=[(0,.box 121 [.vec 1,.lit (.int .i64 p.frm),.lit (.bool p.full),.vec 2,.vec 3,.vec 4,.lit (.int .i64 p.recs)]),(1,.vec 9 .str p.lns),(2,.vec 85 rItm p.its),(3,.vec 9 .str p.blk),(4,.vec 114 rFld p.flds)]
theorem flush_nil (p : PSt) (h : p.lns = []) : yB Tryz.prog 82 [.one (.own 0 0)] (psO p) 5 (.one (.lit .nilIface)) (psO p) 5:=by
  refine yA (rs:=[2]) Tryz.func82 rfl rfl rfl teOk (by decide) rfl ?_;refine qB ?_;refine qI ?_;refine qB ?_;intro l1_5
  try simp only [zds] at l1_5
  refine qJ rfl (fun h11=>?_) (fun h11=>?_)
  ·try simp only [decide_eq_true_eq] at h11
   try simp only [zds] at h11
   refine qB ?_;refine qM ?_;exact ⟨rfl,⟨rfl,rfl,rfl,rfl,rfl⟩,rfl⟩
  ·try simp only [decide_eq_false_iff_not] at h11
   try simp only [zds] at h11
   exact absurd (by rw [h];rfl) h11
theorem flush_good (p : PSt) {k v : List UInt8} (h0 : p.lns ≠ []) (hu : yU (p.lns.map ls) = ((k,v),0)) (hf : p.full = false) (hb : PB p 1000000) : yB Tryz.prog 82 [.one (.own 0 0)] (psO p) 5 (.one (.lit .nilIface)) (psO { p with flds:=p.flds ++ [(bytes k,bytes v)],lns:=[] }) 5:=by
  have hfl:=hb.flds;refine yA (rs:=[2]) Tryz.func82 rfl rfl rfl teOk (by decide) rfl ?_;refine qB ?_;refine qI ?_;refine qB ?_;intro l1_5
  try simp only [zds] at l1_5
  refine qJ rfl (fun h11=>?_) (fun h11=>?_)
  ·try simp only [decide_eq_true_eq] at h11
   try simp only [zds] at h11
   exact absurd (List.eq_nil_of_length_eq_zero (by omega)) h0
  ·try simp only [decide_eq_false_iff_not] at h11
   try simp only [zds] at h11
   refine qL ?_;refine qI ?_;refine uE 1 rfl ?_;refine qH ?_;refine Or.inl ?_;refine zai (rfl) ?_;refine zei _ (zai (unfold_ok p.lns ⟨hb.lns,Nat.le_trans hb.lnb (by decide)⟩ hu) ?_);refine qI ?_;refine qN ?_;refine qB ?_;refine qJ rfl (fun h21=>?_) (fun h21=>?_)
   ·try simp only [Bool.not_eq_true'] at h21
    try simp only [zds] at h21
    cases h21
   ·try simp only [Bool.not_eq_false'] at h21
    try simp only [zds] at h21
    refine qB ?_;refine qJ rfl (fun h31=>?_) (fun h31=>?_)
    ·try simp only [zbq] at h31
     try simp only [zds] at h31
     exact absurd h31 (by rw [hf];decide)
    ·try simp only [zbq] at h31
     try simp only [zds] at h31
     refine qL ?_;refine qI ?_;refine yW rfl ?_;refine qO 0 rfl ?_;refine qO 1 rfl ?_;refine qO 2 rfl ?_;refine qO 3 rfl ?_;refine qO 4 rfl ?_;refine qK [5,6] ?_;refine zai ?_ ?_
     ·refine qK [6] ?_;refine qK [7] ?_;refine qK [8] ?_;refine zai (by first|exact qQ (by first|omega|(simp only [List.length_cons,List.length_nil];omega)|(simp;omega)) (by decide)|omega|assumption|decide|(simp only [zds];omega)|(simp <;> omega)) ?_;refine qO 9 rfl ?_;refine qO 10 rfl ?_;refine qK [11] ?_;refine qO 12 rfl ?_;refine qO 13 rfl ?_;refine qO 14 rfl ?_;refine qK [15] ?_;refine qU ?_;refine qI ?_;refine yM 0 0 9 .str rfl rfl rfl ?_;refine uX 1 7 rfl rfl ?_;refine qH ?_;refine qM ?_;exact ⟨rfl,⟨rfl,rfl,rfl,rfl,rfl⟩,rfl⟩
     ·refine qK [5,7] ?_;refine zai ?_ ?_
      ·refine qK [7] ?_;refine qK [8] ?_;refine zai (by first|exact qQ (by first|omega|(simp only [List.length_cons,List.length_nil];omega)|(simp;omega)) (by decide)|omega|assumption|decide|(simp only [zds];omega)|(simp <;> omega)) ?_;refine qO 9 rfl ?_;refine qO 10 rfl ?_;refine qK [11] ?_;refine qO 12 rfl ?_;refine qO 13 rfl ?_;refine qO 14 rfl ?_;refine qK [15] ?_;refine qU ?_;refine qI ?_;refine yM 0 0 9 .str rfl rfl rfl ?_;refine uX 1 7 rfl rfl ?_;refine qH ?_;refine qM ?_;exact ⟨rfl,⟨rfl,rfl,rfl,rfl,rfl⟩,rfl⟩
      ·refine qK [5] ?_;refine qK [8] ?_;refine zai (by first|exact qQ (by first|omega|(simp only [List.length_cons,List.length_nil];omega)|(simp;omega)) (by decide)|omega|assumption|decide|(simp only [zds];omega)|(simp <;> omega)) ?_;refine qO 9 rfl ?_;refine qO 10 rfl ?_;refine qK [11] ?_;refine qO 12 rfl ?_;refine qO 13 rfl ?_;refine qO 14 rfl ?_;refine qK [15] ?_;refine qU ?_;refine qI ?_;refine yM 0 0 9 .str rfl rfl rfl ?_;refine uX 1 7 rfl rfl ?_;refine qH ?_;refine qM ?_;exact ⟨rfl,⟨rfl,rfl,rfl,rfl,rfl⟩,rfl⟩
theorem flush_bad (p : PSt) {n : Int} (h0 : p.lns ≠ []) (hu : yU (p.lns.map ls) = (([],[]),n)) (hn : n = 2 ∨ n = 6) (hb : PB p 1000000) : yB Tryz.prog 82 [.one (.own 0 0)] (psO p) 5 (.one (errF p.frm n)) [] 5:=by
  refine yA (rs:=[2]) Tryz.func82 rfl rfl rfl teOk (by decide) rfl ?_;refine qB ?_;refine qI ?_;refine qB ?_;intro l1_5
  try simp only [zds] at l1_5
  refine qJ rfl (fun h11=>?_) (fun h11=>?_)
  ·try simp only [decide_eq_true_eq] at h11
   try simp only [zds] at h11
   exact absurd (List.eq_nil_of_length_eq_zero (by omega)) h0
  ·try simp only [decide_eq_false_iff_not] at h11
   try simp only [zds] at h11
   refine qL ?_;refine qI ?_;refine uE 1 rfl ?_;refine qH ?_;refine Or.inl ?_;refine zai (rfl) ?_;refine zei _ (zai (unfold_bad p.lns ⟨hb.lns,Nat.le_trans hb.lnb (by decide)⟩ hu hn) ?_);refine qI ?_;refine qN ?_;refine qB ?_;refine qJ rfl (fun h21=>?_) (fun h21=>?_)
   ·skip
    refine qB ?_;refine Or.inl ?_;refine zai (rfl) ?_;refine zei _ (zai (fault_c p.frm n) ?_);refine qM ?_;exact ⟨rfl,trivial,rfl⟩
   ·try simp only [zbq] at h21
    try simp only [zds] at h21
    cases h21
theorem flush_full (p : PSt) {k v : List UInt8} (h0 : p.lns ≠ []) (hu : yU (p.lns.map ls) = ((k,v),0)) (hf : p.full = true) (hb : PB p 1000000) : yB Tryz.prog 82 [.one (.own 0 0)] (psO p) 5 (.one (errF p.frm 11)) [] 5:=by
  refine yA (rs:=[2]) Tryz.func82 rfl rfl rfl teOk (by decide) rfl ?_;refine qB ?_;refine qI ?_;refine qB ?_;intro l1_5
  try simp only [zds] at l1_5
  refine qJ rfl (fun h11=>?_) (fun h11=>?_)
  ·try simp only [decide_eq_true_eq] at h11
   try simp only [zds] at h11
   exact absurd (List.eq_nil_of_length_eq_zero (by omega)) h0
  ·try simp only [decide_eq_false_iff_not] at h11
   try simp only [zds] at h11
   refine qL ?_;refine qI ?_;refine uE 1 rfl ?_;refine qH ?_;refine Or.inl ?_;refine zai (rfl) ?_;refine zei _ (zai (unfold_ok p.lns ⟨hb.lns,Nat.le_trans hb.lnb (by decide)⟩ hu) ?_);refine qI ?_;refine qN ?_;refine qB ?_;refine qJ rfl (fun h21=>?_) (fun h21=>?_)
   ·try simp only [Bool.not_eq_true'] at h21
    try simp only [zds] at h21
    cases h21
   ·try simp only [Bool.not_eq_false'] at h21
    try simp only [zds] at h21
    refine qB ?_;refine qJ rfl (fun h31=>?_) (fun h31=>?_)
    ·try simp only [zbq] at h31
     try simp only [zds] at h31
     refine qB ?_;refine Or.inl ?_;refine zai (rfl) ?_;refine zei _ (zai (fault_c p.frm 11) ?_);refine qM ?_;exact ⟨rfl,trivial,rfl⟩
    ·try simp only [zbq] at h31
     try simp only [zds] at h31
     exact absurd h31 (by rw [hf];decide)
theorem zN {p q : PSt} (h : kD p = .inr q) (hb : PB p 1000000) : yB Tryz.prog 82 [.one (.own 0 0)] (psO p) 5 (.one (.lit .nilIface)) (psO q) 5:=by
  unfold kD at h;split at h
  · rename_i h0;cases h;exact flush_nil p h0
  · rename_i h0;rcases fN (p.lns.map ls) with ⟨n,hn,hu⟩|⟨k,v,hu,_,_⟩
    · rw [hu,if_pos (by rcases hn with rfl|rfl <;> decide)] at h;cases h
    · rw [hu,if_neg (by simp)] at h;split at h
      · cases h
      · rename_i hf;cases h;exact flush_good p h0 hu (by simpa using hf) hb
theorem zO {p : PSt} {at_ n : Int} (h : kD p = .inl (at_,n)) (hb : PB p 1000000) : yB Tryz.prog 82 [.one (.own 0 0)] (psO p) 5 (.one (errF at_ n)) [] 5:=by
  unfold kD at h;split at h
  · cases h
  · rename_i h0;rcases fN (p.lns.map ls) with ⟨m,hn,hu⟩|⟨k,v,hu,_,_⟩
    · rw [hu,if_pos (by rcases hn with rfl|rfl <;> decide)] at h;cases h;exact flush_bad p h0 hu hn hb
    · rw [hu,if_neg (by simp)] at h;split at h
      · rename_i hf;cases h;exact flush_full p h0 hu hf hb
      · cases h
end Q
end Ab
end Go.Proofs.YtmaekcmknibmeaaGreatDoor
namespace Go.Proofs.YtmaekcmknibmeaaGreatDoor
open Go.RowKit
namespace Ab
set_option maxRecDepth 100000
set_option maxHeartbeats 4000000
namespace Q
theorem uQ (l : List ByteArray) : (Lib.join (l.map (·.data.toList)) [10]).length ≤ (l.map (·.size)).sum + l.length:=by
  refine Nat.le_trans (hJ 10 _) ?_;rw [List.map_map,List.length_map];refine Nat.add_le_add_right (Nat.le_of_eq ?_) _;exact congrArg _ (List.map_congr_left fun s _=>(yC s).symm)
theorem raw_sz {l : List ByteArray} (h1 : l.length ≤ 2000000) (h2 : (l.map (·.size)).sum ≤ 2000000) : ByteArray.size { data:=(Lib.join (l.map (fun x=>x.data.toList)) [10]).toArray } ≤ 4000000:=by
  have:=uQ l;show Array.size _ ≤ _;rw [List.size_toArray];omega
theorem end_nil {p q : PSt} (h : kD p = .inr q) (hq : q.blk = []) (hb : PB p 1000000) : yB Tryz.prog 49 [.one (.own 0 0)] (psO p) 5 (.one (.lit .nilIface)) (psO { q with blk:=[],flds:=[] }) 5:=by
  refine yA (rs:=[2]) Tryz.func49 rfl rfl rfl teOk (by decide) rfl ?_;refine qB ?_;refine qI ?_;refine qB ?_;refine Or.inr (Or.inl (zei [] (zei [0,1,2,3,4] (zei _ (zei _ (zei _ (zei _ (zei _ (zai (zN h hb) (zai rfl (zai (zai (zai rfl rfl) (zai (zai rfl rfl) (zai (zai rfl rfl) (zai (zai rfl rfl) (zai (zai rfl rfl) True.intro))))) (zai rfl ?_))))))))))));refine qB ?_;refine qJ rfl (fun h8=>?_) (fun h8=>?_)
  ·try simp only [Bool.not_eq_true'] at h8
   try simp only [zds] at h8
   cases h8
  ·try simp only [Bool.not_eq_false'] at h8
   try simp only [zds] at h8
   refine qL ?_;refine qI ?_;refine qI ?_;refine uE 3 rfl ?_;refine uE 4 rfl ?_;refine qH ?_;intro l4_4
   try simp only [zds] at l4_4
   refine qJ rfl (fun h15=>?_) (fun h15=>?_)
   ·try simp only [decide_eq_true_eq] at h15
    try simp only [zds] at h15
    exact absurd (by rw [hq];rfl : (q.blk.length : Int) = 0) (by omega)
   ·try simp only [decide_eq_false_iff_not,Int.not_lt] at h15
    try simp only [zds] at h15
    refine qL ?_;refine qB ?_;refine qI ?_;refine yM 0 4 9 .str rfl rfl rfl ?_;refine uX 3 5 rfl rfl ?_;refine yM 0 5 114 rFld rfl rfl rfl ?_;refine uX 4 6 rfl rfl ?_;refine qH ?_;refine qM ?_;exact ⟨rfl,⟨rfl,rfl,rfl,rfl,rfl⟩,rfl⟩
theorem end_blk {p q : PSt} (h : kD p = .inr q) (hq : q.blk ≠ []) (hb : PB p 1000000) (hb2 : PB q 2000000) : yB Tryz.prog 49 [.one (.own 0 0)] (psO p) 5 (.one (.lit .nilIface)) (psO { q with its:=q.its ++ [((if q.flds = [] then 2 else 3 : Int),rawB q.blk,q.flds)],recs:=(if q.flds = [] then q.recs else q.recs + 1),blk:=[],flds:=[] }) 5:=by
  have hi:=hb2.its;have hjs:=raw_sz hb2.blk hb2.blb;have hr0:=hb2.rec0;have hrB:=hb2.recB;refine yA (rs:=[2]) Tryz.func49 rfl rfl rfl teOk (by decide) rfl ?_;refine qB ?_;refine qI ?_;refine qB ?_;refine Or.inr (Or.inl (zei [] (zei [0,1,2,3,4] (zei _ (zei _ (zei _ (zei _ (zei _ (zai (zN h hb) (zai rfl (zai (zai (zai rfl rfl) (zai (zai rfl rfl) (zai (zai rfl rfl) (zai (zai rfl rfl) (zai (zai rfl rfl) True.intro))))) (zai rfl ?_))))))))))));refine qB ?_;refine qJ rfl (fun h8=>?_) (fun h8=>?_)
  ·try simp only [Bool.not_eq_true'] at h8
   try simp only [zds] at h8
   cases h8
  ·try simp only [Bool.not_eq_false'] at h8
   try simp only [zds] at h8
   refine qL ?_;refine jJ (fun (u : Unit)=>True) (fun (u : Unit)=>[(0,.one (.own 0 0))]) (fun (u : Unit)=>[(0,.box 121 [.vec 1,.lit (.int .i64 q.frm),.lit (.bool q.full),.vec 2,.sl .str q.blk,.sl rFld q.flds,.lit (.int .i64 (if q.flds = [] then q.recs else q.recs + 1))]),(1,.vec 9 .str q.lns),(2,.vec 85 rItm (q.its ++ [((if q.flds = [] then 2 else 3 : Int),rawB q.blk,q.flds)])),(3,.vec 9 .str []),(4,.vec 114 rFld [])]) 5 ?_ ?_
   ·refine qI ?_;refine uE 3 rfl ?_;refine uE 4 rfl ?_;refine qH ?_;intro l4_4
    try simp only [zds] at l4_4
    refine qJ rfl (fun h15=>?_) (fun h15=>?_)
    ·try simp only [decide_eq_true_eq] at h15
     try simp only [zds] at h15
     refine qB ?_;refine jJ (fun (u : Int × Int)=>u = ((if q.flds = [] then 2 else 3 : Int),(if q.flds = [] then q.recs else q.recs + 1))) (fun (u : Int × Int)=>[(0,.one (.own 0 0)),(4,ii .i64 u.1)]) (fun (u : Int × Int)=>[(0,.box 121 [.vec 1,.lit (.int .i64 q.frm),.lit (.bool q.full),.vec 2,.sl .str q.blk,.sl rFld q.flds,.lit (.int .i64 u.2)]),(1,.vec 9 .str q.lns),(2,.vec 85 rItm q.its),(3,.vec 9 .str []),(4,.vec 114 rFld [])]) 5 ?_ ?_
     ·refine qB ?_;intro l6_4
      try simp only [zds] at l6_4
      refine qJ rfl (fun h21=>?_) (fun h21=>?_)
      ·try simp only [decide_eq_true_eq] at h21
       try simp only [zds] at h21
       refine qB ?_;refine qH ?_;refine zob ?_;exact ⟨(3,q.recs + 1),by have hf : q.flds ≠ []:=(fun e=>by rw [e] at h21;simp at h21);simp only [if_neg hf],qP ⟨rfl,rfl⟩ ⟨rfl,rfl,rfl,rfl,rfl⟩ rfl⟩
      ·try simp only [decide_eq_false_iff_not,Int.not_lt] at h21
       try simp only [zds] at h21
       refine qL ?_;exact ⟨(2,q.recs),by have hf : q.flds = []:=List.eq_nil_of_length_eq_zero (by omega);simp only [if_pos hf],qP ⟨rfl,rfl⟩ ⟨rfl,rfl,rfl,rfl,rfl⟩ rfl⟩
     ·intro u hcut9;obtain ⟨k,rc⟩:=u;obtain ⟨rfl,rfl⟩:=Prod.mk.inj hcut9;refine yW rfl ?_;refine qO 0 rfl ?_;refine qO 1 rfl ?_;refine qO 2 rfl ?_;refine qO 3 rfl ?_;refine qO 5 rfl ?_;refine qO 6 rfl ?_;refine qO 7 rfl ?_;refine qO 8 rfl ?_;refine qO 12 rfl ?_;refine qO 13 rfl ?_;refine qO 14 rfl ?_;refine qK [4,9,15] ?_;refine zai ?_ ?_
      ·refine qK [9,15] ?_;refine zai ?_ ?_
       ·refine qK [10,15] ?_;refine zai ?_ ?_
        ·refine Or.inl ?_;refine zai (rfl) ?_;refine zei _ (zai (wF q.blk ⟨#[10]⟩ (Nat.le_trans hb2.blk (by decide)) (Nat.le_trans (uQ q.blk) (by have:=hb2.blk;have:=hb2.blb;omega))) ?_);refine qO 11 rfl ?_;refine zai (by (have hk0 : ByteArray.size { data:=#[10] } = 1:=rfl;first|(unfold maxLen;omega)|(simp only [];omega)|(unfold maxLen;(try simp only []);omega))) ?_;refine qK [15] ?_;refine qK [16] ?_;refine qK [17] ?_;refine qK [18] ?_;refine zai (by first|exact qQ (by first|omega|(simp only [List.length_cons,List.length_nil];omega)|(simp;omega)) (by decide)|omega|assumption|decide|(simp only [zds];omega)|(simp <;> omega)) ?_;refine qO 19 rfl ?_;refine qO 20 rfl ?_;refine qK [21] ?_;refine qU ?_;exact ⟨(),trivial,qP rfl ⟨rfl,rfl,rfl,rfl,rfl⟩ rfl⟩
        ·refine qK [10] ?_;refine Or.inl ?_;refine zai (rfl) ?_;refine zei _ (zai (wF q.blk ⟨#[10]⟩ (Nat.le_trans hb2.blk (by decide)) (Nat.le_trans (uQ q.blk) (by have:=hb2.blk;have:=hb2.blb;omega))) ?_);refine qO 11 rfl ?_;refine zai (by (have hk0 : ByteArray.size { data:=#[10] } = 1:=rfl;first|(unfold maxLen;omega)|(simp only [];omega)|(unfold maxLen;(try simp only []);omega))) ?_;refine qK [16] ?_;refine qK [17] ?_;refine qK [18] ?_;refine zai (by first|exact qQ (by first|omega|(simp only [List.length_cons,List.length_nil];omega)|(simp;omega)) (by decide)|omega|assumption|decide|(simp only [zds];omega)|(simp <;> omega)) ?_;refine qO 19 rfl ?_;refine qO 20 rfl ?_;refine qK [21] ?_;refine qU ?_;exact ⟨(),trivial,qP rfl ⟨rfl,rfl,rfl,rfl,rfl⟩ rfl⟩
       ·refine qK [9] ?_;refine qK [10] ?_;refine Or.inl ?_;refine zai (rfl) ?_;refine zei _ (zai (wF q.blk ⟨#[10]⟩ (Nat.le_trans hb2.blk (by decide)) (Nat.le_trans (uQ q.blk) (by have:=hb2.blk;have:=hb2.blb;omega))) ?_);refine qO 11 rfl ?_;refine zai (by (have hk0 : ByteArray.size { data:=#[10] } = 1:=rfl;first|(unfold maxLen;omega)|(simp only [];omega)|(unfold maxLen;(try simp only []);omega))) ?_;refine qK [16] ?_;refine qK [17] ?_;refine qK [18] ?_;refine zai (by first|exact qQ (by first|omega|(simp only [List.length_cons,List.length_nil];omega)|(simp;omega)) (by decide)|omega|assumption|decide|(simp only [zds];omega)|(simp <;> omega)) ?_;refine qO 19 rfl ?_;refine qO 20 rfl ?_;refine qK [21] ?_;refine qU ?_;exact ⟨(),trivial,qP rfl ⟨rfl,rfl,rfl,rfl,rfl⟩ rfl⟩
      refine zai ?_ ?_
      ·refine qK [4,10,15] ?_;refine zai ?_ ?_
       ·refine qK [10,15] ?_;refine zai ?_ ?_
        ·refine Or.inl ?_;refine zai (rfl) ?_;refine zei _ (zai (wF q.blk ⟨#[10]⟩ (Nat.le_trans hb2.blk (by decide)) (Nat.le_trans (uQ q.blk) (by have:=hb2.blk;have:=hb2.blb;omega))) ?_);refine qO 11 rfl ?_;refine zai (by (have hk0 : ByteArray.size { data:=#[10] } = 1:=rfl;first|(unfold maxLen;omega)|(simp only [];omega)|(unfold maxLen;(try simp only []);omega))) ?_;refine qK [15] ?_;refine qK [16] ?_;refine qK [17] ?_;refine qK [18] ?_;refine zai (by first|exact qQ (by first|omega|(simp only [List.length_cons,List.length_nil];omega)|(simp;omega)) (by decide)|omega|assumption|decide|(simp only [zds];omega)|(simp <;> omega)) ?_;refine qO 19 rfl ?_;refine qO 20 rfl ?_;refine qK [21] ?_;refine qU ?_;exact ⟨(),trivial,qP rfl ⟨rfl,rfl,rfl,rfl,rfl⟩ rfl⟩
        ·refine qK [10] ?_;refine Or.inl ?_;refine zai (rfl) ?_;refine zei _ (zai (wF q.blk ⟨#[10]⟩ (Nat.le_trans hb2.blk (by decide)) (Nat.le_trans (uQ q.blk) (by have:=hb2.blk;have:=hb2.blb;omega))) ?_);refine qO 11 rfl ?_;refine zai (by (have hk0 : ByteArray.size { data:=#[10] } = 1:=rfl;first|(unfold maxLen;omega)|(simp only [];omega)|(unfold maxLen;(try simp only []);omega))) ?_;refine qK [16] ?_;refine qK [17] ?_;refine qK [18] ?_;refine zai (by first|exact qQ (by first|omega|(simp only [List.length_cons,List.length_nil];omega)|(simp;omega)) (by decide)|omega|assumption|decide|(simp only [zds];omega)|(simp <;> omega)) ?_;refine qO 19 rfl ?_;refine qO 20 rfl ?_;refine qK [21] ?_;refine qU ?_;exact ⟨(),trivial,qP rfl ⟨rfl,rfl,rfl,rfl,rfl⟩ rfl⟩
       refine zai ?_ ?_
       ·refine Or.inl ?_;refine zai (rfl) ?_;refine zei _ (zai (wF q.blk ⟨#[10]⟩ (Nat.le_trans hb2.blk (by decide)) (Nat.le_trans (uQ q.blk) (by have:=hb2.blk;have:=hb2.blb;omega))) ?_);refine qO 11 rfl ?_;refine zai (by (have hk0 : ByteArray.size { data:=#[10] } = 1:=rfl;first|(unfold maxLen;omega)|(simp only [];omega)|(unfold maxLen;(try simp only []);omega))) ?_;refine qK [4,15] ?_;refine zai ?_ ?_
        ·refine qK [15] ?_;refine qK [16] ?_;refine qK [17] ?_;refine qK [18] ?_;refine zai (by first|exact qQ (by first|omega|(simp only [List.length_cons,List.length_nil];omega)|(simp;omega)) (by decide)|omega|assumption|decide|(simp only [zds];omega)|(simp <;> omega)) ?_;refine qO 19 rfl ?_;refine qO 20 rfl ?_;refine qK [21] ?_;refine qU ?_;exact ⟨(),trivial,qP rfl ⟨rfl,rfl,rfl,rfl,rfl⟩ rfl⟩
        ·refine qK [4,16] ?_;refine zai ?_ ?_
         ·refine qK [16] ?_;refine qK [17] ?_;refine qK [18] ?_;refine zai (by first|exact qQ (by first|omega|(simp only [List.length_cons,List.length_nil];omega)|(simp;omega)) (by decide)|omega|assumption|decide|(simp only [zds];omega)|(simp <;> omega)) ?_;refine qO 19 rfl ?_;refine qO 20 rfl ?_;refine qK [21] ?_;refine qU ?_;exact ⟨(),trivial,qP rfl ⟨rfl,rfl,rfl,rfl,rfl⟩ rfl⟩
         ·refine qK [4,17] ?_;refine zai ?_ ?_
          ·refine qK [17] ?_;refine qK [18] ?_;refine zai (by first|exact qQ (by first|omega|(simp only [List.length_cons,List.length_nil];omega)|(simp;omega)) (by decide)|omega|assumption|decide|(simp only [zds];omega)|(simp <;> omega)) ?_;refine qO 19 rfl ?_;refine qO 20 rfl ?_;refine qK [21] ?_;refine qU ?_;exact ⟨(),trivial,qP rfl ⟨rfl,rfl,rfl,rfl,rfl⟩ rfl⟩
          ·refine qK [4] ?_;refine qK [18] ?_;refine zai (by first|exact qQ (by first|omega|(simp only [List.length_cons,List.length_nil];omega)|(simp;omega)) (by decide)|omega|assumption|decide|(simp only [zds];omega)|(simp <;> omega)) ?_;refine qO 19 rfl ?_;refine qO 20 rfl ?_;refine qK [21] ?_;refine qU ?_;exact ⟨(),trivial,qP rfl ⟨rfl,rfl,rfl,rfl,rfl⟩ rfl⟩
       ·refine qK [4,10] ?_;refine zai ?_ ?_
        ·refine qK [10] ?_;refine Or.inl ?_;refine zai (rfl) ?_;refine zei _ (zai (wF q.blk ⟨#[10]⟩ (Nat.le_trans hb2.blk (by decide)) (Nat.le_trans (uQ q.blk) (by have:=hb2.blk;have:=hb2.blb;omega))) ?_);refine qO 11 rfl ?_;refine zai (by (have hk0 : ByteArray.size { data:=#[10] } = 1:=rfl;first|(unfold maxLen;omega)|(simp only [];omega)|(unfold maxLen;(try simp only []);omega))) ?_;refine qK [16] ?_;refine qK [17] ?_;refine qK [18] ?_;refine zai (by first|exact qQ (by first|omega|(simp only [List.length_cons,List.length_nil];omega)|(simp;omega)) (by decide)|omega|assumption|decide|(simp only [zds];omega)|(simp <;> omega)) ?_;refine qO 19 rfl ?_;refine qO 20 rfl ?_;refine qK [21] ?_;refine qU ?_;exact ⟨(),trivial,qP rfl ⟨rfl,rfl,rfl,rfl,rfl⟩ rfl⟩
        ·refine Or.inl ?_;refine zai (rfl) ?_;refine zei _ (zai (wF q.blk ⟨#[10]⟩ (Nat.le_trans hb2.blk (by decide)) (Nat.le_trans (uQ q.blk) (by have:=hb2.blk;have:=hb2.blb;omega))) ?_);refine qO 11 rfl ?_;refine zai (by (have hk0 : ByteArray.size { data:=#[10] } = 1:=rfl;first|(unfold maxLen;omega)|(simp only [];omega)|(unfold maxLen;(try simp only []);omega))) ?_;refine qK [4,16] ?_;refine zai ?_ ?_
         ·refine qK [16] ?_;refine qK [17] ?_;refine qK [18] ?_;refine zai (by first|exact qQ (by first|omega|(simp only [List.length_cons,List.length_nil];omega)|(simp;omega)) (by decide)|omega|assumption|decide|(simp only [zds];omega)|(simp <;> omega)) ?_;refine qO 19 rfl ?_;refine qO 20 rfl ?_;refine qK [21] ?_;refine qU ?_;exact ⟨(),trivial,qP rfl ⟨rfl,rfl,rfl,rfl,rfl⟩ rfl⟩
         ·refine qK [4,17] ?_;refine zai ?_ ?_
          ·refine qK [17] ?_;refine qK [18] ?_;refine zai (by first|exact qQ (by first|omega|(simp only [List.length_cons,List.length_nil];omega)|(simp;omega)) (by decide)|omega|assumption|decide|(simp only [zds];omega)|(simp <;> omega)) ?_;refine qO 19 rfl ?_;refine qO 20 rfl ?_;refine qK [21] ?_;refine qU ?_;exact ⟨(),trivial,qP rfl ⟨rfl,rfl,rfl,rfl,rfl⟩ rfl⟩
          ·refine qK [4] ?_;refine qK [18] ?_;refine zai (by first|exact qQ (by first|omega|(simp only [List.length_cons,List.length_nil];omega)|(simp;omega)) (by decide)|omega|assumption|decide|(simp only [zds];omega)|(simp <;> omega)) ?_;refine qO 19 rfl ?_;refine qO 20 rfl ?_;refine qK [21] ?_;refine qU ?_;exact ⟨(),trivial,qP rfl ⟨rfl,rfl,rfl,rfl,rfl⟩ rfl⟩
      ·refine qK [4,9] ?_;refine zai ?_ ?_
       ·refine qK [9] ?_;refine qK [10] ?_;refine Or.inl ?_;refine zai (rfl) ?_;refine zei _ (zai (wF q.blk ⟨#[10]⟩ (Nat.le_trans hb2.blk (by decide)) (Nat.le_trans (uQ q.blk) (by have:=hb2.blk;have:=hb2.blb;omega))) ?_);refine qO 11 rfl ?_;refine zai (by (have hk0 : ByteArray.size { data:=#[10] } = 1:=rfl;first|(unfold maxLen;omega)|(simp only [];omega)|(unfold maxLen;(try simp only []);omega))) ?_;refine qK [16] ?_;refine qK [17] ?_;refine qK [18] ?_;refine zai (by first|exact qQ (by first|omega|(simp only [List.length_cons,List.length_nil];omega)|(simp;omega)) (by decide)|omega|assumption|decide|(simp only [zds];omega)|(simp <;> omega)) ?_;refine qO 19 rfl ?_;refine qO 20 rfl ?_;refine qK [21] ?_;refine qU ?_;exact ⟨(),trivial,qP rfl ⟨rfl,rfl,rfl,rfl,rfl⟩ rfl⟩
       ·refine qK [4,10] ?_;refine zai ?_ ?_
        ·refine qK [10] ?_;refine Or.inl ?_;refine zai (rfl) ?_;refine zei _ (zai (wF q.blk ⟨#[10]⟩ (Nat.le_trans hb2.blk (by decide)) (Nat.le_trans (uQ q.blk) (by have:=hb2.blk;have:=hb2.blb;omega))) ?_);refine qO 11 rfl ?_;refine zai (by (have hk0 : ByteArray.size { data:=#[10] } = 1:=rfl;first|(unfold maxLen;omega)|(simp only [];omega)|(unfold maxLen;(try simp only []);omega))) ?_;refine qK [16] ?_;refine qK [17] ?_;refine qK [18] ?_;refine zai (by first|exact qQ (by first|omega|(simp only [List.length_cons,List.length_nil];omega)|(simp;omega)) (by decide)|omega|assumption|decide|(simp only [zds];omega)|(simp <;> omega)) ?_;refine qO 19 rfl ?_;refine qO 20 rfl ?_;refine qK [21] ?_;refine qU ?_;exact ⟨(),trivial,qP rfl ⟨rfl,rfl,rfl,rfl,rfl⟩ rfl⟩
        ·refine Or.inl ?_;refine zai (rfl) ?_;refine zei _ (zai (wF q.blk ⟨#[10]⟩ (Nat.le_trans hb2.blk (by decide)) (Nat.le_trans (uQ q.blk) (by have:=hb2.blk;have:=hb2.blb;omega))) ?_);refine qO 11 rfl ?_;refine zai (by (have hk0 : ByteArray.size { data:=#[10] } = 1:=rfl;first|(unfold maxLen;omega)|(simp only [];omega)|(unfold maxLen;(try simp only []);omega))) ?_;refine qK [4,16] ?_;refine zai ?_ ?_
         ·refine qK [16] ?_;refine qK [17] ?_;refine qK [18] ?_;refine zai (by first|exact qQ (by first|omega|(simp only [List.length_cons,List.length_nil];omega)|(simp;omega)) (by decide)|omega|assumption|decide|(simp only [zds];omega)|(simp <;> omega)) ?_;refine qO 19 rfl ?_;refine qO 20 rfl ?_;refine qK [21] ?_;refine qU ?_;exact ⟨(),trivial,qP rfl ⟨rfl,rfl,rfl,rfl,rfl⟩ rfl⟩
         ·refine qK [4,17] ?_;refine zai ?_ ?_
          ·refine qK [17] ?_;refine qK [18] ?_;refine zai (by first|exact qQ (by first|omega|(simp only [List.length_cons,List.length_nil];omega)|(simp;omega)) (by decide)|omega|assumption|decide|(simp only [zds];omega)|(simp <;> omega)) ?_;refine qO 19 rfl ?_;refine qO 20 rfl ?_;refine qK [21] ?_;refine qU ?_;exact ⟨(),trivial,qP rfl ⟨rfl,rfl,rfl,rfl,rfl⟩ rfl⟩
          ·refine qK [4] ?_;refine qK [18] ?_;refine zai (by first|exact qQ (by first|omega|(simp only [List.length_cons,List.length_nil];omega)|(simp;omega)) (by decide)|omega|assumption|decide|(simp only [zds];omega)|(simp <;> omega)) ?_;refine qO 19 rfl ?_;refine qO 20 rfl ?_;refine qK [21] ?_;refine qU ?_;exact ⟨(),trivial,qP rfl ⟨rfl,rfl,rfl,rfl,rfl⟩ rfl⟩
    ·try simp only [decide_eq_false_iff_not,Int.not_lt] at h15
     try simp only [zds] at h15
     exact absurd (List.eq_nil_of_length_eq_zero (by omega)) hq
   ·intro u hcut10;refine qB ?_;refine qI ?_;refine yM 0 4 9 .str rfl rfl rfl ?_;refine uX 3 5 rfl rfl ?_;refine yM 0 5 114 rFld rfl rfl rfl ?_;refine uX 4 6 rfl rfl ?_;refine qH ?_;refine qM ?_;exact ⟨rfl,⟨rfl,rfl,rfl,rfl,rfl⟩,rfl⟩
theorem end_ok {p q : PSt} (h : endS p = .inr q) (hb : PB p 1000000) : yB Tryz.prog 49 [.one (.own 0 0)] (psO p) 5 (.one (.lit .nilIface)) (psO q) 5:=by
  unfold endS at h;split at h
  · cases h
  · rename_i r e;cases h;have hb2 : PB r 2000000:=(eT hb e).mono (by decide);unfold bV;split
    · rename_i h0;exact end_nil e h0 hb
    · rename_i h0;exact end_blk e h0 hb hb2
theorem end_err {p : PSt} {at_ n : Int} (h : endS p = .inl (at_,n)) (hb : PB p 1000000) : yB Tryz.prog 49 [.one (.own 0 0)] (psO p) 5 (.one (errF at_ n)) [] 5:=by
  have h : kD p = .inl (at_,n):=by
    unfold endS at h;split at h
    · rename_i e;cases h;exact e
    · cases h
  refine yA (rs:=[2]) Tryz.func49 rfl rfl rfl teOk (by decide) rfl ?_;refine qB ?_;refine qI ?_;refine qB ?_;refine Or.inr (Or.inl (zei [] (zei [0,1,2,3,4] (zei _ (zei _ (zei _ (zei _ (zei _ (zai (zO h hb) (zai rfl (zai (zai (zai rfl rfl) (zai (zai rfl rfl) (zai (zai rfl rfl) (zai (zai rfl rfl) (zai (zai rfl rfl) True.intro))))) (zai rfl ?_))))))))))));refine qB ?_;refine qJ rfl (fun h8=>?_) (fun h8=>?_)
  ·skip
   refine qB ?_;refine qM ?_;exact ⟨rfl,trivial,rfl⟩
  ·try simp only [zbq] at h8
   try simp only [zds] at h8
   cases h8
end Q
end Ab
end Go.Proofs.YtmaekcmknibmeaaGreatDoor
namespace Go.Proofs.YtmaekcmknibmeaaGreatDoor
open Go.RowKit
namespace Ab
set_option maxRecDepth 100000
namespace Q
theorem begin_c (p : PSt) (l : Lne) (_hb : PB p 1000000) : yB Tryz.prog 81 [.one (.own 0 0),.agg (toL rLne l)] (psO p) 5 (.tup []) (psO (jH p l)) 5:=by
  refine yA (rs:=[]) Tryz.func81 rfl rfl rfl teOk (by decide) rfl ?_;refine qB ?_;refine qB ?_;intro l1_4
  try simp only [zds] at l1_4
  refine zai (fun h=>trivial) ?_;refine zai (fun h=>⟨⟨h,trivial⟩,trivial⟩) ?_;refine zai (fun h=>⟨⟨h,trivial⟩,trivial⟩) ?_;refine zai (fun h=>⟨⟨h,trivial⟩,trivial⟩) ?_;refine zai (fun h=>⟨⟨h,trivial⟩,trivial⟩) ?_;refine zai (fun h=>⟨⟨h,trivial⟩,trivial⟩) ?_;refine zai (fun h=>⟨⟨h,trivial⟩,trivial⟩) ?_;refine zai (fun h=>trivial) ?_;refine zai (fun h=>⟨⟨h,trivial⟩,trivial⟩) ?_;refine zai (fun h=>⟨⟨h,trivial⟩,trivial⟩) ?_;refine zai (fun h=>⟨⟨h,trivial⟩,trivial⟩) ?_;refine zai (fun h=>⟨⟨h,trivial⟩,trivial⟩) ?_;refine zai (fun h=>⟨⟨⟨h,trivial⟩,trivial⟩,by first|exact fun h2=>h2|(intro h2;rw [h,h2];rfl)|(intro h2;cases h2)|(intro h2;simp_all [gq])⟩) ?_;refine zai (by first|(intro h;rw [h];rfl)|(intro h;cases h)) ?_;refine acode_mend 1 6 ?_;refine qH ?_;exact ⟨rfl,rfl,rfl,⟨rfl,rfl,rfl,rfl,rfl⟩,rfl⟩
theorem ahead_none {p : PSt} (l : Lne) (h : p.lns = []) : yB Tryz.prog 79 [.one (.own 0 0),.agg (toL rLne l),ii .i64 3] (psO p) 5 (.one (errF l.1 2)) [] 5:=by
  refine yA (rs:=[6]) Tryz.func79 rfl rfl rfl teOk (by decide) rfl ?_;refine qB ?_;refine qI ?_;refine qB ?_;refine qN ?_;refine qB ?_;refine qJ rfl (fun h8=>?_) (fun h8=>?_)
  ·try simp only [decide_eq_true_eq] at h8
   try simp only [zds] at h8
   refine qI ?_;refine qB ?_;intro l3_5
   try simp only [zds] at l3_5
   refine qJ rfl (fun h16=>?_) (fun h16=>?_)
   ·try simp only [decide_eq_true_eq] at h16
    try simp only [zds] at h16
    refine qB ?_;refine Or.inl ?_;refine zai (rfl) ?_;refine zei _ (zai (fault_c l.1 2) ?_);refine qM ?_;exact ⟨rfl,trivial,rfl⟩
   ·try simp only [decide_eq_false_iff_not] at h16
    try simp only [zds] at h16
    exact absurd (by rw [h];rfl) h16
  ·try simp only [decide_eq_false_iff_not] at h8
   try simp only [zds] at h8
   exact absurd trivial h8
theorem ahead_more {p : PSt} {l : Lne} (h : p.lns ≠ []) (he : l.2.2.2 = true) (hb : PB p 1000000) : yB Tryz.prog 79 [.one (.own 0 0),.agg (toL rLne l),ii .i64 3] (psO p) 5 (.one (.lit .nilIface)) (psO { p with lns:=p.lns ++ [l.2.2.1] }) 5:=by
  have hl:=hb.lns;refine yA (rs:=[6]) Tryz.func79 rfl rfl rfl teOk (by decide) rfl ?_;refine qB ?_;refine qI ?_;refine qB ?_;refine qN ?_;refine qB ?_;refine qJ rfl (fun h8=>?_) (fun h8=>?_)
  ·try simp only [decide_eq_true_eq] at h8
   try simp only [zds] at h8
   refine qI ?_;refine qB ?_;intro l3_5
   try simp only [zds] at l3_5
   refine qJ rfl (fun h16=>?_) (fun h16=>?_)
   ·try simp only [decide_eq_true_eq] at h16
    try simp only [zds] at h16
    exact absurd (List.eq_nil_of_length_eq_zero (by omega)) h
   ·try simp only [decide_eq_false_iff_not] at h16
    try simp only [zds] at h16
    refine qL ?_;refine qI ?_;refine yW rfl ?_;refine qO 0 rfl ?_;refine qO 1 rfl ?_;refine qO 2 rfl ?_;refine qO 3 rfl ?_;refine qO 4 rfl ?_;refine qO 6 rfl ?_;refine qK [5,7] ?_;refine zai ?_ ?_
    ·refine qK [7] ?_;refine qK [8] ?_;refine qK [9] ?_;refine zai (by first|exact qQ (by first|omega|(simp only [List.length_cons,List.length_nil];omega)|(simp;omega)) (by decide)|omega|assumption|decide|(simp only [zds];omega)|(simp <;> omega)) ?_;refine qO 10 rfl ?_;refine qO 11 rfl ?_;refine qO 12 rfl ?_;refine qK [13] ?_;refine qU ?_;refine qI ?_;refine qB ?_;refine qJ rfl (fun h35=>?_) (fun h35=>?_)
     ·try simp only [zbq] at h35
      try simp only [zds] at h35
      refine qB ?_;refine qM ?_;exact ⟨rfl,⟨rfl,rfl,rfl,rfl,rfl⟩,rfl⟩
     ·try simp only [zbq] at h35
      try simp only [zds] at h35
      exact absurd h35 (by rw [he];decide)
    ·refine qK [5,8] ?_;refine zai ?_ ?_
     ·refine qK [8] ?_;refine qK [9] ?_;refine zai (by first|exact qQ (by first|omega|(simp only [List.length_cons,List.length_nil];omega)|(simp;omega)) (by decide)|omega|assumption|decide|(simp only [zds];omega)|(simp <;> omega)) ?_;refine qO 10 rfl ?_;refine qO 11 rfl ?_;refine qO 12 rfl ?_;refine qK [13] ?_;refine qU ?_;refine qI ?_;refine qB ?_;refine qJ rfl (fun h35=>?_) (fun h35=>?_)
      ·try simp only [zbq] at h35
       try simp only [zds] at h35
       refine qB ?_;refine qM ?_;exact ⟨rfl,⟨rfl,rfl,rfl,rfl,rfl⟩,rfl⟩
      ·try simp only [zbq] at h35
       try simp only [zds] at h35
       exact absurd h35 (by rw [he];decide)
     ·refine qK [5] ?_;refine qK [9] ?_;refine zai (by first|exact qQ (by first|omega|(simp only [List.length_cons,List.length_nil];omega)|(simp;omega)) (by decide)|omega|assumption|decide|(simp only [zds];omega)|(simp <;> omega)) ?_;refine qO 10 rfl ?_;refine qO 11 rfl ?_;refine qO 12 rfl ?_;refine qK [13] ?_;refine qU ?_;refine qI ?_;refine qB ?_;refine qJ rfl (fun h35=>?_) (fun h35=>?_)
      ·try simp only [zbq] at h35
       try simp only [zds] at h35
       refine qB ?_;refine qM ?_;exact ⟨rfl,⟨rfl,rfl,rfl,rfl,rfl⟩,rfl⟩
      ·try simp only [zbq] at h35
       try simp only [zds] at h35
       exact absurd h35 (by rw [he];decide)
  ·try simp only [decide_eq_false_iff_not] at h8
   try simp only [zds] at h8
   exact absurd trivial h8
theorem ahead_last {p q : PSt} {l : Lne} (h : p.lns ≠ []) (he : l.2.2.2 = false) (hb : PB p 900000) (hs : l.2.2.1.size ≤ 90000) (hf : kD { p with lns:=p.lns ++ [l.2.2.1] } = .inr q) : yB Tryz.prog 79 [.one (.own 0 0),.agg (toL rLne l),ii .i64 3] (psO p) 5 (.one (.lit .nilIface)) (psO q) 5:=by
  have hl:=hb.lns;refine yA (rs:=[6]) Tryz.func79 rfl rfl rfl teOk (by decide) rfl ?_;refine qB ?_;refine qI ?_;refine qB ?_;refine qN ?_;refine qB ?_;refine qJ rfl (fun h8=>?_) (fun h8=>?_)
  ·try simp only [decide_eq_true_eq] at h8
   try simp only [zds] at h8
   refine qI ?_;refine qB ?_;intro l3_5
   try simp only [zds] at l3_5
   refine qJ rfl (fun h16=>?_) (fun h16=>?_)
   ·try simp only [decide_eq_true_eq] at h16
    try simp only [zds] at h16
    exact absurd (List.eq_nil_of_length_eq_zero (by omega)) h
   ·try simp only [decide_eq_false_iff_not] at h16
    try simp only [zds] at h16
    refine qL ?_;refine qI ?_;refine yW rfl ?_;refine qO 0 rfl ?_;refine qO 1 rfl ?_;refine qO 2 rfl ?_;refine qO 3 rfl ?_;refine qO 4 rfl ?_;refine qO 6 rfl ?_;refine qK [5,7] ?_;refine zai ?_ ?_
    ·refine qK [7] ?_;refine qK [8] ?_;refine qK [9] ?_;refine zai (by first|exact qQ (by first|omega|(simp only [List.length_cons,List.length_nil];omega)|(simp;omega)) (by decide)|omega|assumption|decide|(simp only [zds];omega)|(simp <;> omega)) ?_;refine qO 10 rfl ?_;refine qO 11 rfl ?_;refine qO 12 rfl ?_;refine qK [13] ?_;refine qU ?_;refine qI ?_;refine qB ?_;refine qJ rfl (fun h35=>?_) (fun h35=>?_)
     ·try simp only [zbq] at h35
      try simp only [zds] at h35
      exact absurd h35 (by rw [he];decide)
     ·try simp only [zbq] at h35
      try simp only [zds] at h35
      refine qL ?_;refine qB ?_;refine Or.inr (Or.inl (zei [] (zei [0,1,2,3,4] (zei _ (zei _ (zei _ (zei _ (zei _ (zai (zN hf ((bL _ hb).mono (by omega))) (zai rfl (zai (zai (zai rfl rfl) (zai (zai rfl rfl) (zai (zai rfl rfl) (zai (zai rfl rfl) (zai (zai rfl rfl) True.intro))))) (zai rfl ?_))))))))))));refine qM ?_;exact ⟨rfl,⟨rfl,rfl,rfl,rfl,rfl⟩,rfl⟩
    ·refine qK [5,8] ?_;refine zai ?_ ?_
     ·refine qK [8] ?_;refine qK [9] ?_;refine zai (by first|exact qQ (by first|omega|(simp only [List.length_cons,List.length_nil];omega)|(simp;omega)) (by decide)|omega|assumption|decide|(simp only [zds];omega)|(simp <;> omega)) ?_;refine qO 10 rfl ?_;refine qO 11 rfl ?_;refine qO 12 rfl ?_;refine qK [13] ?_;refine qU ?_;refine qI ?_;refine qB ?_;refine qJ rfl (fun h35=>?_) (fun h35=>?_)
      ·try simp only [zbq] at h35
       try simp only [zds] at h35
       exact absurd h35 (by rw [he];decide)
      ·try simp only [zbq] at h35
       try simp only [zds] at h35
       refine qL ?_;refine qB ?_;refine Or.inr (Or.inl (zei [] (zei [0,1,2,3,4] (zei _ (zei _ (zei _ (zei _ (zei _ (zai (zN hf ((bL _ hb).mono (by omega))) (zai rfl (zai (zai (zai rfl rfl) (zai (zai rfl rfl) (zai (zai rfl rfl) (zai (zai rfl rfl) (zai (zai rfl rfl) True.intro))))) (zai rfl ?_))))))))))));refine qM ?_;exact ⟨rfl,⟨rfl,rfl,rfl,rfl,rfl⟩,rfl⟩
     ·refine qK [5] ?_;refine qK [9] ?_;refine zai (by first|exact qQ (by first|omega|(simp only [List.length_cons,List.length_nil];omega)|(simp;omega)) (by decide)|omega|assumption|decide|(simp only [zds];omega)|(simp <;> omega)) ?_;refine qO 10 rfl ?_;refine qO 11 rfl ?_;refine qO 12 rfl ?_;refine qK [13] ?_;refine qU ?_;refine qI ?_;refine qB ?_;refine qJ rfl (fun h35=>?_) (fun h35=>?_)
      ·try simp only [zbq] at h35
       try simp only [zds] at h35
       exact absurd h35 (by rw [he];decide)
      ·try simp only [zbq] at h35
       try simp only [zds] at h35
       refine qL ?_;refine qB ?_;refine Or.inr (Or.inl (zei [] (zei [0,1,2,3,4] (zei _ (zei _ (zei _ (zei _ (zei _ (zai (zN hf ((bL _ hb).mono (by omega))) (zai rfl (zai (zai (zai rfl rfl) (zai (zai rfl rfl) (zai (zai rfl rfl) (zai (zai rfl rfl) (zai (zai rfl rfl) True.intro))))) (zai rfl ?_))))))))))));refine qM ?_;exact ⟨rfl,⟨rfl,rfl,rfl,rfl,rfl⟩,rfl⟩
  ·try simp only [decide_eq_false_iff_not] at h8
   try simp only [zds] at h8
   exact absurd trivial h8
theorem ahead_fail {p : PSt} {l : Lne} {at_ n : Int} (h : p.lns ≠ []) (he : l.2.2.2 = false) (hb : PB p 900000) (hs : l.2.2.1.size ≤ 90000) (hf : kD { p with lns:=p.lns ++ [l.2.2.1] } = .inl (at_,n)) : yB Tryz.prog 79 [.one (.own 0 0),.agg (toL rLne l),ii .i64 3] (psO p) 5 (.one (errF at_ n)) [] 5:=by
  have hl:=hb.lns;refine yA (rs:=[6]) Tryz.func79 rfl rfl rfl teOk (by decide) rfl ?_;refine qB ?_;refine qI ?_;refine qB ?_;refine qN ?_;refine qB ?_;refine qJ rfl (fun h8=>?_) (fun h8=>?_)
  ·try simp only [decide_eq_true_eq] at h8
   try simp only [zds] at h8
   refine qI ?_;refine qB ?_;intro l3_5
   try simp only [zds] at l3_5
   refine qJ rfl (fun h16=>?_) (fun h16=>?_)
   ·try simp only [decide_eq_true_eq] at h16
    try simp only [zds] at h16
    exact absurd (List.eq_nil_of_length_eq_zero (by omega)) h
   ·try simp only [decide_eq_false_iff_not] at h16
    try simp only [zds] at h16
    refine qL ?_;refine qI ?_;refine yW rfl ?_;refine qO 0 rfl ?_;refine qO 1 rfl ?_;refine qO 2 rfl ?_;refine qO 3 rfl ?_;refine qO 4 rfl ?_;refine qO 6 rfl ?_;refine qK [5,7] ?_;refine zai ?_ ?_
    ·refine qK [7] ?_;refine qK [8] ?_;refine qK [9] ?_;refine zai (by first|exact qQ (by first|omega|(simp only [List.length_cons,List.length_nil];omega)|(simp;omega)) (by decide)|omega|assumption|decide|(simp only [zds];omega)|(simp <;> omega)) ?_;refine qO 10 rfl ?_;refine qO 11 rfl ?_;refine qO 12 rfl ?_;refine qK [13] ?_;refine qU ?_;refine qI ?_;refine qB ?_;refine qJ rfl (fun h35=>?_) (fun h35=>?_)
     ·try simp only [zbq] at h35
      try simp only [zds] at h35
      exact absurd h35 (by rw [he];decide)
     ·try simp only [zbq] at h35
      try simp only [zds] at h35
      refine qL ?_;refine qB ?_;refine Or.inr (Or.inl (zei [] (zei [0,1,2,3,4] (zei _ (zei _ (zei _ (zei _ (zei _ (zai (zO hf ((bL _ hb).mono (by omega))) (zai rfl (zai (zai (zai rfl rfl) (zai (zai rfl rfl) (zai (zai rfl rfl) (zai (zai rfl rfl) (zai (zai rfl rfl) True.intro))))) (zai rfl ?_))))))))))));refine qM ?_;exact ⟨rfl,trivial,rfl⟩
    ·refine qK [5,8] ?_;refine zai ?_ ?_
     ·refine qK [8] ?_;refine qK [9] ?_;refine zai (by first|exact qQ (by first|omega|(simp only [List.length_cons,List.length_nil];omega)|(simp;omega)) (by decide)|omega|assumption|decide|(simp only [zds];omega)|(simp <;> omega)) ?_;refine qO 10 rfl ?_;refine qO 11 rfl ?_;refine qO 12 rfl ?_;refine qK [13] ?_;refine qU ?_;refine qI ?_;refine qB ?_;refine qJ rfl (fun h35=>?_) (fun h35=>?_)
      ·try simp only [zbq] at h35
       try simp only [zds] at h35
       exact absurd h35 (by rw [he];decide)
      ·try simp only [zbq] at h35
       try simp only [zds] at h35
       refine qL ?_;refine qB ?_;refine Or.inr (Or.inl (zei [] (zei [0,1,2,3,4] (zei _ (zei _ (zei _ (zei _ (zei _ (zai (zO hf ((bL _ hb).mono (by omega))) (zai rfl (zai (zai (zai rfl rfl) (zai (zai rfl rfl) (zai (zai rfl rfl) (zai (zai rfl rfl) (zai (zai rfl rfl) True.intro))))) (zai rfl ?_))))))))))));refine qM ?_;exact ⟨rfl,trivial,rfl⟩
     ·refine qK [5] ?_;refine qK [9] ?_;refine zai (by first|exact qQ (by first|omega|(simp only [List.length_cons,List.length_nil];omega)|(simp;omega)) (by decide)|omega|assumption|decide|(simp only [zds];omega)|(simp <;> omega)) ?_;refine qO 10 rfl ?_;refine qO 11 rfl ?_;refine qO 12 rfl ?_;refine qK [13] ?_;refine qU ?_;refine qI ?_;refine qB ?_;refine qJ rfl (fun h35=>?_) (fun h35=>?_)
      ·try simp only [zbq] at h35
       try simp only [zds] at h35
       exact absurd h35 (by rw [he];decide)
      ·try simp only [zbq] at h35
       try simp only [zds] at h35
       refine qL ?_;refine qB ?_;refine Or.inr (Or.inl (zei [] (zei [0,1,2,3,4] (zei _ (zei _ (zei _ (zei _ (zei _ (zai (zO hf ((bL _ hb).mono (by omega))) (zai rfl (zai (zai (zai rfl rfl) (zai (zai rfl rfl) (zai (zai rfl rfl) (zai (zai rfl rfl) (zai (zai rfl rfl) True.intro))))) (zai rfl ?_))))))))))));refine qM ?_;exact ⟨rfl,trivial,rfl⟩
  ·try simp only [decide_eq_false_iff_not] at h8
   try simp only [zds] at h8
   exact absurd trivial h8
theorem ahead_end {p q : PSt} {l : Lne} (hb : PB p 900000) (hf : endS p = .inr q) : yB Tryz.prog 79 [.one (.own 0 0),.agg (toL rLne l),ii .i64 1] (psO p) 5 (.one (.lit .nilIface)) (psO q) 5:=by
  refine yA (rs:=[6]) Tryz.func79 rfl rfl rfl teOk (by decide) rfl ?_;refine qB ?_;refine qI ?_;refine qB ?_;refine qN ?_;refine qB ?_;refine qJ rfl (fun h8=>?_) (fun h8=>?_)
  ·try simp only [decide_eq_true_eq] at h8
   try simp only [zds] at h8
   exact absurd h8 (by decide)
  ·try simp only [decide_eq_false_iff_not] at h8
   try simp only [zds] at h8
   refine qB ?_;refine qJ rfl (fun h38=>?_) (fun h38=>?_)
   ·try simp only [decide_eq_true_eq] at h38
    try simp only [zds] at h38
    refine qB ?_;refine Or.inr (Or.inl (zei [] (zei [0,1,2,3,4] (zei _ (zei _ (zei _ (zei _ (zei _ (zai (end_ok hf (hb.mono (by decide))) (zai rfl (zai (zai (zai rfl rfl) (zai (zai rfl rfl) (zai (zai rfl rfl) (zai (zai rfl rfl) (zai (zai rfl rfl) True.intro))))) (zai rfl ?_))))))))))));refine qM ?_;exact ⟨rfl,⟨rfl,rfl,rfl,rfl,rfl⟩,rfl⟩
   ·try simp only [decide_eq_false_iff_not] at h38
    try simp only [zds] at h38
    exact absurd trivial h38
theorem ahead_endf {p : PSt} {l : Lne} {at_ n : Int} (hb : PB p 900000) (hf : endS p = .inl (at_,n)) : yB Tryz.prog 79 [.one (.own 0 0),.agg (toL rLne l),ii .i64 1] (psO p) 5 (.one (errF at_ n)) [] 5:=by
  refine yA (rs:=[6]) Tryz.func79 rfl rfl rfl teOk (by decide) rfl ?_;refine qB ?_;refine qI ?_;refine qB ?_;refine qN ?_;refine qB ?_;refine qJ rfl (fun h8=>?_) (fun h8=>?_)
  ·try simp only [decide_eq_true_eq] at h8
   try simp only [zds] at h8
   exact absurd h8 (by decide)
  ·try simp only [decide_eq_false_iff_not] at h8
   try simp only [zds] at h8
   refine qB ?_;refine qJ rfl (fun h38=>?_) (fun h38=>?_)
   ·try simp only [decide_eq_true_eq] at h38
    try simp only [zds] at h38
    refine qB ?_;refine Or.inr (Or.inl (zei [] (zei [0,1,2,3,4] (zei _ (zei _ (zei _ (zei _ (zei _ (zai (end_err hf (hb.mono (by decide))) (zai rfl (zai (zai (zai rfl rfl) (zai (zai rfl rfl) (zai (zai rfl rfl) (zai (zai rfl rfl) (zai (zai rfl rfl) True.intro))))) (zai rfl ?_))))))))))));refine qM ?_;exact ⟨rfl,trivial,rfl⟩
   ·try simp only [decide_eq_false_iff_not] at h38
    try simp only [zds] at h38
    exact absurd trivial h38
theorem ahead_flush {p q : PSt} {l : Lne} {k : Int} (h3 : k ≠ 3) (h1 : k ≠ 1) (hb : PB p 900000) (hf : kD p = .inr q) : yB Tryz.prog 79 [.one (.own 0 0),.agg (toL rLne l),ii .i64 k] (psO p) 5 (.one (.lit .nilIface)) (psO q) 5:=by
  refine yA (rs:=[6]) Tryz.func79 rfl rfl rfl teOk (by decide) rfl ?_;refine qB ?_;refine qI ?_;refine qB ?_;refine qN ?_;refine qB ?_;refine qJ rfl (fun h8=>?_) (fun h8=>?_)
  ·try simp only [decide_eq_true_eq] at h8
   try simp only [zds] at h8
   exact absurd h8 h3
  ·try simp only [decide_eq_false_iff_not] at h8
   try simp only [zds] at h8
   refine qB ?_;refine qJ rfl (fun h38=>?_) (fun h38=>?_)
   ·try simp only [decide_eq_true_eq] at h38
    try simp only [zds] at h38
    exact absurd h38 h1
   ·try simp only [decide_eq_false_iff_not] at h38
    try simp only [zds] at h38
    refine qL ?_;refine qB ?_;refine Or.inr (Or.inl (zei [] (zei [0,1,2,3,4] (zei _ (zei _ (zei _ (zei _ (zei _ (zai (zN hf (hb.mono (by decide))) (zai rfl (zai (zai (zai rfl rfl) (zai (zai rfl rfl) (zai (zai rfl rfl) (zai (zai rfl rfl) (zai (zai rfl rfl) True.intro))))) (zai rfl ?_))))))))))));refine qM ?_;exact ⟨rfl,⟨rfl,rfl,rfl,rfl,rfl⟩,rfl⟩
theorem ahead_flushf {p : PSt} {l : Lne} {k at_ n : Int} (h3 : k ≠ 3) (h1 : k ≠ 1) (hb : PB p 900000) (hf : kD p = .inl (at_,n)) : yB Tryz.prog 79 [.one (.own 0 0),.agg (toL rLne l),ii .i64 k] (psO p) 5 (.one (errF at_ n)) [] 5:=by
  refine yA (rs:=[6]) Tryz.func79 rfl rfl rfl teOk (by decide) rfl ?_;refine qB ?_;refine qI ?_;refine qB ?_;refine qN ?_;refine qB ?_;refine qJ rfl (fun h8=>?_) (fun h8=>?_)
  ·try simp only [decide_eq_true_eq] at h8
   try simp only [zds] at h8
   exact absurd h8 h3
  ·try simp only [decide_eq_false_iff_not] at h8
   try simp only [zds] at h8
   refine qB ?_;refine qJ rfl (fun h38=>?_) (fun h38=>?_)
   ·try simp only [decide_eq_true_eq] at h38
    try simp only [zds] at h38
    exact absurd h38 h1
   ·try simp only [decide_eq_false_iff_not] at h38
    try simp only [zds] at h38
    refine qL ?_;refine qB ?_;refine Or.inr (Or.inl (zei [] (zei [0,1,2,3,4] (zei _ (zei _ (zei _ (zei _ (zei _ (zai (zO hf (hb.mono (by decide))) (zai rfl (zai (zai (zai rfl rfl) (zai (zai rfl rfl) (zai (zai rfl rfl) (zai (zai rfl rfl) (zai (zai rfl rfl) True.intro))))) (zai rfl ?_))))))))))));refine qM ?_;exact ⟨rfl,trivial,rfl⟩
theorem fJ {p q : PSt} {l : Lne} {k : Int} (h : kE p l k = .inr q) (hb : PB p 900000) (hs : l.2.2.1.size ≤ 90000) : yB Tryz.prog 79 [.one (.own 0 0),.agg (toL rLne l),ii .i64 k] (psO p) 5 (.one (.lit .nilIface)) (psO q) 5:=by
  unfold kE at h;split at h
  · rename_i e;subst e;split at h
    · cases h
    · rename_i h0;split at h
      · rename_i he;cases h;exact ahead_more h0 he (hb.mono (by decide))
      · rename_i he;exact ahead_last h0 (by simpa using he) hb hs h
  · rename_i h3;split at h
    · rename_i e;subst e;exact ahead_end hb h
    · rename_i h1;exact ahead_flush h3 h1 hb h
theorem ahead_err {p : PSt} {l : Lne} {k at_ n : Int} (h : kE p l k = .inl (at_,n)) (hb : PB p 900000) (hs : l.2.2.1.size ≤ 90000) : yB Tryz.prog 79 [.one (.own 0 0),.agg (toL rLne l),ii .i64 k] (psO p) 5 (.one (errF at_ n)) [] 5:=by
  unfold kE at h;split at h
  · rename_i e;subst e;split at h
    · rename_i h0;cases h;exact ahead_none l h0
    · rename_i h0;split at h
      · cases h
      · rename_i he;exact ahead_fail h0 (by simpa using he) hb hs h
  · rename_i h3;split at h
    · rename_i e;subst e;exact ahead_endf hb h
    · rename_i h1;exact ahead_flushf h3 h1 hb h
theorem take_err1 {p : PSt} {l : Lne} {at_ n : Int} (h : kE p l (yJ (ls l.2.2.1)) = .inl (at_,n)) (hb : PB p 900000) (hs : l.2.2.1.size ≤ 90000) : yB Tryz.prog 48 [.one (.own 0 0),.agg (toL rLne l)] (psO p) 5 (.one (errF at_ n)) [] 5:=by
  refine yA (rs:=[4]) Tryz.func48 rfl rfl rfl teOk (by decide) rfl ?_;refine qB ?_;refine qB ?_;refine Or.inl ?_;refine zai (rfl) ?_;refine zei _ (zai (dJ l.2.2.1 (Nat.le_trans hs (by decide))) ?_);refine qI ?_;refine qB ?_;refine Or.inr (Or.inl (zei [] (zei [0,1,2,3,4] (zei _ (zei _ (zei _ (zei _ (zei _ (zai (ahead_err h hb hs) (zai rfl (zai (zai (zai rfl rfl) (zai (zai rfl rfl) (zai (zai rfl rfl) (zai (zai rfl rfl) (zai (zai rfl rfl) True.intro))))) (zai rfl ?_))))))))))));refine qB ?_;refine qJ rfl (fun h15=>?_) (fun h15=>?_)
  ·skip
   refine qB ?_;refine qM ?_;exact ⟨rfl,trivial,rfl⟩
  ·try simp only [zbq] at h15
   try simp only [zds] at h15
   cases h15
theorem take_odd {p q : PSt} {l : Lne} (h : kE p l (yJ (ls l.2.2.1)) = .inr q) (hk : yJ (ls l.2.2.1) = 5 ∨ l.2.2.2 = false) (hb : PB p 900000) (hs : l.2.2.1.size ≤ 90000) : yB Tryz.prog 48 [.one (.own 0 0),.agg (toL rLne l)] (psO p) 5 (.one (errF l.1 2)) [] 5:=by
  refine yA (rs:=[4]) Tryz.func48 rfl rfl rfl teOk (by decide) rfl ?_;refine qB ?_;refine qB ?_;refine Or.inl ?_;refine zai (rfl) ?_;refine zei _ (zai (dJ l.2.2.1 (Nat.le_trans hs (by decide))) ?_);refine qI ?_;refine qB ?_;refine Or.inr (Or.inl (zei [] (zei [0,1,2,3,4] (zei _ (zei _ (zei _ (zei _ (zei _ (zai (fJ h hb hs) (zai rfl (zai (zai (zai rfl rfl) (zai (zai rfl rfl) (zai (zai rfl rfl) (zai (zai rfl rfl) (zai (zai rfl rfl) True.intro))))) (zai rfl ?_))))))))))));refine qB ?_;refine qJ rfl (fun h15=>?_) (fun h15=>?_)
  ·try simp only [Bool.not_eq_true'] at h15
   try simp only [zds] at h15
   cases h15
  ·try simp only [Bool.not_eq_false'] at h15
   try simp only [zds] at h15
   refine qL ?_;refine qI ?_;refine qN ?_;refine qB ?_;refine zai (fun h=>trivial) ?_;refine zai (fun h=>⟨⟨h,trivial⟩,trivial⟩) ?_;refine zai (fun h=>⟨⟨h,trivial⟩,trivial⟩) ?_;refine zai (by first|(intro h;rw [h];rfl)|(intro h;cases h)) ?_;refine qJ rfl (fun h17=>?_) (fun h17=>?_)
   ·try simp only [decide_eq_true_eq,Bool.not_eq_true',Bool.or_eq_true] at h17
    try simp only [zds] at h17
    refine qB ?_;refine Or.inl ?_;refine zai (rfl) ?_;refine zei _ (zai (fault_c l.1 2) ?_);refine qM ?_;exact ⟨rfl,trivial,rfl⟩
   ·try simp only [decide_eq_false_iff_not,Bool.not_eq_false',Bool.or_eq_false_iff] at h17
    try simp only [zds] at h17
    exact absurd h17 (by rcases hk with hk|hk <;> simp [hk])
theorem take_blank {p q : PSt} {l : Lne} (h : kE p l (yJ (ls l.2.2.1)) = .inr q) (hk : yJ (ls l.2.2.1) = 1) (he : l.2.2.2 = true) (hb : PB p 900000) (hq : PB q 2000000) (hs : l.2.2.1.size ≤ 90000) : yB Tryz.prog 48 [.one (.own 0 0),.agg (toL rLne l)] (psO p) 5 (.one (.lit .nilIface)) (psO { q with its:=q.its ++ [(1,l.2.2.1 ++ ⟨#[10]⟩,[])] }) 5:=by
  have hi:=hq.its;refine yA (rs:=[4]) Tryz.func48 rfl rfl rfl teOk (by decide) rfl ?_;refine qB ?_;refine qB ?_;refine Or.inl ?_;refine zai (rfl) ?_;refine zei _ (zai (dJ l.2.2.1 (Nat.le_trans hs (by decide))) ?_);refine qI ?_;refine qB ?_;refine Or.inr (Or.inl (zei [] (zei [0,1,2,3,4] (zei _ (zei _ (zei _ (zei _ (zei _ (zai (fJ h hb hs) (zai rfl (zai (zai (zai rfl rfl) (zai (zai rfl rfl) (zai (zai rfl rfl) (zai (zai rfl rfl) (zai (zai rfl rfl) True.intro))))) (zai rfl ?_))))))))))));refine qB ?_;refine qJ rfl (fun h15=>?_) (fun h15=>?_)
  ·try simp only [Bool.not_eq_true'] at h15
   try simp only [zds] at h15
   cases h15
  ·try simp only [Bool.not_eq_false'] at h15
   try simp only [zds] at h15
   refine qL ?_;refine qI ?_;refine qN ?_;refine qB ?_;refine zai (fun h=>trivial) ?_;refine zai (fun h=>⟨⟨h,trivial⟩,trivial⟩) ?_;refine zai (fun h=>⟨⟨h,trivial⟩,trivial⟩) ?_;refine zai (by first|(intro h;rw [h];rfl)|(intro h;cases h)) ?_;refine qJ rfl (fun h17=>?_) (fun h17=>?_)
   ·try simp only [decide_eq_true_eq,Bool.not_eq_true',Bool.or_eq_true] at h17
    try simp only [zds] at h17
    exact absurd h17 (by simp [hk,he])
   ·try simp only [decide_eq_false_iff_not,Bool.not_eq_false',Bool.or_eq_false_iff] at h17
    try simp only [zds] at h17
    refine qB ?_;refine qJ rfl (fun h29=>?_) (fun h29=>?_)
    ·try simp only [decide_eq_true_eq] at h29
     try simp only [zds] at h29
     refine qI ?_;refine yW rfl ?_;refine qO 0 rfl ?_;refine qO 1 rfl ?_;refine qO 2 rfl ?_;refine qO 3 rfl ?_;refine qO 5 rfl ?_;refine qK [4,6] ?_;refine zai ?_ ?_
     ·refine qK [6] ?_;refine qO 7 rfl ?_;refine zai (by (have hk0 : ByteArray.size { data:=#[10] } = 1:=rfl;first|(unfold maxLen;omega)|(simp only [ByteArray.size_append];omega)|(unfold maxLen;(try simp only [ByteArray.size_append]);omega))) ?_;refine qK [8] ?_;refine qK [9] ?_;refine qK [10] ?_;refine zai (by first|exact qQ (by first|omega|(simp only [List.length_cons,List.length_nil];omega)|(simp;omega)) (by decide)|omega|assumption|decide|(simp only [zds];omega)|(simp <;> omega)) ?_;refine qO 11 rfl ?_;refine qO 12 rfl ?_;refine qK [13] ?_;refine qU ?_;refine qB ?_;refine qM ?_;exact ⟨rfl,⟨rfl,rfl,rfl,rfl,rfl⟩,rfl⟩
     ·refine qO 7 rfl ?_;refine zai (by (have hk0 : ByteArray.size { data:=#[10] } = 1:=rfl;first|(unfold maxLen;omega)|(simp only [ByteArray.size_append];omega)|(unfold maxLen;(try simp only [ByteArray.size_append]);omega))) ?_;refine qK [4,8] ?_;refine zai ?_ ?_
      ·refine qK [8] ?_;refine qK [9] ?_;refine qK [10] ?_;refine zai (by first|exact qQ (by first|omega|(simp only [List.length_cons,List.length_nil];omega)|(simp;omega)) (by decide)|omega|assumption|decide|(simp only [zds];omega)|(simp <;> omega)) ?_;refine qO 11 rfl ?_;refine qO 12 rfl ?_;refine qK [13] ?_;refine qU ?_;refine qB ?_;refine qM ?_;exact ⟨rfl,⟨rfl,rfl,rfl,rfl,rfl⟩,rfl⟩
      ·refine qK [4,9] ?_;refine zai ?_ ?_
       ·refine qK [9] ?_;refine qK [10] ?_;refine zai (by first|exact qQ (by first|omega|(simp only [List.length_cons,List.length_nil];omega)|(simp;omega)) (by decide)|omega|assumption|decide|(simp only [zds];omega)|(simp <;> omega)) ?_;refine qO 11 rfl ?_;refine qO 12 rfl ?_;refine qK [13] ?_;refine qU ?_;refine qB ?_;refine qM ?_;exact ⟨rfl,⟨rfl,rfl,rfl,rfl,rfl⟩,rfl⟩
       ·refine qK [4] ?_;refine qK [10] ?_;refine zai (by first|exact qQ (by first|omega|(simp only [List.length_cons,List.length_nil];omega)|(simp;omega)) (by decide)|omega|assumption|decide|(simp only [zds];omega)|(simp <;> omega)) ?_;refine qO 11 rfl ?_;refine qO 12 rfl ?_;refine qK [13] ?_;refine qU ?_;refine qB ?_;refine qM ?_;exact ⟨rfl,⟨rfl,rfl,rfl,rfl,rfl⟩,rfl⟩
    ·try simp only [decide_eq_false_iff_not] at h29
     try simp only [zds] at h29
     exact absurd hk h29
theorem take_pair {p q : PSt} {l : Lne} (h : kE p l (yJ (ls l.2.2.1)) = .inr q) (hk : yJ (ls l.2.2.1) = 4) (he : l.2.2.2 = true) (hb : PB p 900000) (hq : PB q 1000000) (hs : l.2.2.1.size ≤ 90000) : yB Tryz.prog 48 [.one (.own 0 0),.agg (toL rLne l)] (psO p) 5 (.one (.lit .nilIface)) (psO { jH q l with blk:=q.blk ++ [l.2.2.1] }) 5:=by
  have hi : (jH q l).blk.length ≤ 1000000:=hq.blk;refine yA (rs:=[4]) Tryz.func48 rfl rfl rfl teOk (by decide) rfl ?_;refine qB ?_;refine qB ?_;refine Or.inl ?_;refine zai (rfl) ?_;refine zei _ (zai (dJ l.2.2.1 (Nat.le_trans hs (by decide))) ?_);refine qI ?_;refine qB ?_;refine Or.inr (Or.inl (zei [] (zei [0,1,2,3,4] (zei _ (zei _ (zei _ (zei _ (zei _ (zai (fJ h hb hs) (zai rfl (zai (zai (zai rfl rfl) (zai (zai rfl rfl) (zai (zai rfl rfl) (zai (zai rfl rfl) (zai (zai rfl rfl) True.intro))))) (zai rfl ?_))))))))))));refine qB ?_;refine qJ rfl (fun h15=>?_) (fun h15=>?_)
  ·try simp only [Bool.not_eq_true'] at h15
   try simp only [zds] at h15
   cases h15
  ·try simp only [Bool.not_eq_false'] at h15
   try simp only [zds] at h15
   refine qL ?_;refine qI ?_;refine qN ?_;refine qB ?_;refine zai (fun h=>trivial) ?_;refine zai (fun h=>⟨⟨h,trivial⟩,trivial⟩) ?_;refine zai (fun h=>⟨⟨h,trivial⟩,trivial⟩) ?_;refine zai (by first|(intro h;rw [h];rfl)|(intro h;cases h)) ?_;refine qJ rfl (fun h17=>?_) (fun h17=>?_)
   ·try simp only [decide_eq_true_eq,Bool.not_eq_true',Bool.or_eq_true] at h17
    try simp only [zds] at h17
    exact absurd h17 (by simp [hk,he])
   ·try simp only [decide_eq_false_iff_not,Bool.not_eq_false',Bool.or_eq_false_iff] at h17
    try simp only [zds] at h17
    refine qB ?_;refine qJ rfl (fun h29=>?_) (fun h29=>?_)
    ·try simp only [decide_eq_true_eq] at h29
     try simp only [zds] at h29
     exact absurd h29 (by rw [hk];decide)
    ·try simp only [decide_eq_false_iff_not] at h29
     try simp only [zds] at h29
     refine qB ?_;refine qJ rfl (fun h45=>?_) (fun h45=>?_)
     ·try simp only [decide_eq_true_eq] at h45
      try simp only [zds] at h45
      refine qH ?_;refine Or.inr (Or.inl (zei [] (zei [0,1,2,3,4] (zei _ (zei _ (zei _ (zei _ (zei _ (zai (begin_c q l hq) (zai rfl (zai (zai (zai rfl rfl) (zai (zai rfl rfl) (zai (zai rfl rfl) (zai (zai rfl rfl) (zai (zai rfl rfl) True.intro))))) (zai rfl ?_))))))))))));refine qI ?_;refine yW rfl ?_;refine qO 0 rfl ?_;refine qO 1 rfl ?_;refine qO 2 rfl ?_;refine qO 3 rfl ?_;refine qO 5 rfl ?_;refine qK [4,6] ?_;refine zai ?_ ?_
      ·refine qK [6] ?_;refine qK [7] ?_;refine qK [8] ?_;refine zai (by first|exact qQ (by first|omega|(simp only [List.length_cons,List.length_nil];omega)|(simp;omega)) (by decide)|omega|assumption|decide|(simp only [zds];omega)|(simp <;> omega)) ?_;refine qO 9 rfl ?_;refine qO 10 rfl ?_;refine qK [11] ?_;refine qU ?_;refine qB ?_;refine qM ?_;exact ⟨rfl,⟨rfl,rfl,rfl,rfl,rfl⟩,rfl⟩
      ·refine qK [4,7] ?_;refine zai ?_ ?_
       ·refine qK [7] ?_;refine qK [8] ?_;refine zai (by first|exact qQ (by first|omega|(simp only [List.length_cons,List.length_nil];omega)|(simp;omega)) (by decide)|omega|assumption|decide|(simp only [zds];omega)|(simp <;> omega)) ?_;refine qO 9 rfl ?_;refine qO 10 rfl ?_;refine qK [11] ?_;refine qU ?_;refine qB ?_;refine qM ?_;exact ⟨rfl,⟨rfl,rfl,rfl,rfl,rfl⟩,rfl⟩
       ·refine qK [4] ?_;refine qK [8] ?_;refine zai (by first|exact qQ (by first|omega|(simp only [List.length_cons,List.length_nil];omega)|(simp;omega)) (by decide)|omega|assumption|decide|(simp only [zds];omega)|(simp <;> omega)) ?_;refine qO 9 rfl ?_;refine qO 10 rfl ?_;refine qK [11] ?_;refine qU ?_;refine qB ?_;refine qM ?_;exact ⟨rfl,⟨rfl,rfl,rfl,rfl,rfl⟩,rfl⟩
     ·try simp only [decide_eq_false_iff_not] at h45
      try simp only [zds] at h45
      exact absurd hk h45
theorem take_more {p q : PSt} {l : Lne} (h : kE p l (yJ (ls l.2.2.1)) = .inr q) (h5 : yJ (ls l.2.2.1) ≠ 5) (h1 : yJ (ls l.2.2.1) ≠ 1) (h4 : yJ (ls l.2.2.1) ≠ 4) (he : l.2.2.2 = true) (hb : PB p 900000) (hq : PB q 1000000) (hs : l.2.2.1.size ≤ 90000) : yB Tryz.prog 48 [.one (.own 0 0),.agg (toL rLne l)] (psO p) 5 (.one (.lit .nilIface)) (psO { q with blk:=q.blk ++ [l.2.2.1] }) 5:=by
  have hi:=hq.blk;refine yA (rs:=[4]) Tryz.func48 rfl rfl rfl teOk (by decide) rfl ?_;refine qB ?_;refine qB ?_;refine Or.inl ?_;refine zai (rfl) ?_;refine zei _ (zai (dJ l.2.2.1 (Nat.le_trans hs (by decide))) ?_);refine qI ?_;refine qB ?_;refine Or.inr (Or.inl (zei [] (zei [0,1,2,3,4] (zei _ (zei _ (zei _ (zei _ (zei _ (zai (fJ h hb hs) (zai rfl (zai (zai (zai rfl rfl) (zai (zai rfl rfl) (zai (zai rfl rfl) (zai (zai rfl rfl) (zai (zai rfl rfl) True.intro))))) (zai rfl ?_))))))))))));refine qB ?_;refine qJ rfl (fun h15=>?_) (fun h15=>?_)
  ·try simp only [Bool.not_eq_true'] at h15
   try simp only [zds] at h15
   cases h15
  ·try simp only [Bool.not_eq_false'] at h15
   try simp only [zds] at h15
   refine qL ?_;refine qI ?_;refine qN ?_;refine qB ?_;refine zai (fun h=>trivial) ?_;refine zai (fun h=>⟨⟨h,trivial⟩,trivial⟩) ?_;refine zai (fun h=>⟨⟨h,trivial⟩,trivial⟩) ?_;refine zai (by first|(intro h;rw [h];rfl)|(intro h;cases h)) ?_;refine qJ rfl (fun h17=>?_) (fun h17=>?_)
   ·try simp only [decide_eq_true_eq,Bool.not_eq_true',Bool.or_eq_true] at h17
    try simp only [zds] at h17
    exact absurd h17 (by simp [h5,he])
   ·try simp only [decide_eq_false_iff_not,Bool.not_eq_false',Bool.or_eq_false_iff] at h17
    try simp only [zds] at h17
    refine qB ?_;refine qJ rfl (fun h29=>?_) (fun h29=>?_)
    ·try simp only [decide_eq_true_eq] at h29
     try simp only [zds] at h29
     exact absurd h29 h1
    ·try simp only [decide_eq_false_iff_not] at h29
     try simp only [zds] at h29
     refine qB ?_;refine qJ rfl (fun h45=>?_) (fun h45=>?_)
     ·try simp only [decide_eq_true_eq] at h45
      try simp only [zds] at h45
      exact absurd h45 h4
     ·try simp only [decide_eq_false_iff_not] at h45
      try simp only [zds] at h45
      refine qL ?_;refine qI ?_;refine yW rfl ?_;refine qO 0 rfl ?_;refine qO 1 rfl ?_;refine qO 2 rfl ?_;refine qO 3 rfl ?_;refine qO 5 rfl ?_;refine qK [4,6] ?_;refine zai ?_ ?_
      ·refine qK [6] ?_;refine qK [7] ?_;refine qK [8] ?_;refine zai (by first|exact qQ (by first|omega|(simp only [List.length_cons,List.length_nil];omega)|(simp;omega)) (by decide)|omega|assumption|decide|(simp only [zds];omega)|(simp <;> omega)) ?_;refine qO 9 rfl ?_;refine qO 10 rfl ?_;refine qK [11] ?_;refine qU ?_;refine qB ?_;refine qM ?_;exact ⟨rfl,⟨rfl,rfl,rfl,rfl,rfl⟩,rfl⟩
      ·refine qK [4,7] ?_;refine zai ?_ ?_
       ·refine qK [7] ?_;refine qK [8] ?_;refine zai (by first|exact qQ (by first|omega|(simp only [List.length_cons,List.length_nil];omega)|(simp;omega)) (by decide)|omega|assumption|decide|(simp only [zds];omega)|(simp <;> omega)) ?_;refine qO 9 rfl ?_;refine qO 10 rfl ?_;refine qK [11] ?_;refine qU ?_;refine qB ?_;refine qM ?_;exact ⟨rfl,⟨rfl,rfl,rfl,rfl,rfl⟩,rfl⟩
       ·refine qK [4] ?_;refine qK [8] ?_;refine zai (by first|exact qQ (by first|omega|(simp only [List.length_cons,List.length_nil];omega)|(simp;omega)) (by decide)|omega|assumption|decide|(simp only [zds];omega)|(simp <;> omega)) ?_;refine qO 9 rfl ?_;refine qO 10 rfl ?_;refine qK [11] ?_;refine qU ?_;refine qB ?_;refine qM ?_;exact ⟨rfl,⟨rfl,rfl,rfl,rfl,rfl⟩,rfl⟩
theorem take_ok {p q : PSt} {l : Lne} (h : xY p l = .inr q) (hb : PB p 800000) (hs : l.2.2.1.size ≤ 90000) : yB Tryz.prog 48 [.one (.own 0 0),.agg (toL rLne l)] (psO p) 5 (.one (.lit .nilIface)) (psO q) 5:=by
  unfold xY at h;split at h
  · cases h
  · rename_i r e;have hb' : PB p 900000:=hb.mono (by decide);have hr : PB r 1000000:=(aheadS_B hb e).mono (by omega);unfold gF at h;split at h
    · cases h
    · rename_i h0;have h5 : yJ (ls l.2.2.1) ≠ 5:=fun e=>h0 (.inl e)
      have he : l.2.2.2 = true:=by
        cases e : l.2.2.2
        · exact absurd (.inr e) h0
        · rfl
      split at h
      · rename_i h1;cases h;exact take_blank e h1 he hb' (hr.mono (by decide)) hs
      · rename_i h1;split at h
        · rename_i h4;cases h;exact take_pair e h4 he hb' hr hs
        · rename_i h4;cases h;exact take_more e h5 h1 h4 he hb' hr hs
theorem take_err {p : PSt} {l : Lne} {at_ n : Int} (h : xY p l = .inl (at_,n)) (hb : PB p 800000) (hs : l.2.2.1.size ≤ 90000) : yB Tryz.prog 48 [.one (.own 0 0),.agg (toL rLne l)] (psO p) 5 (.one (errF at_ n)) [] 5:=by
  unfold xY at h;split at h
  · rename_i e;cases h;exact take_err1 e (hb.mono (by decide)) hs
  · rename_i r e;unfold gF at h;split at h
    · rename_i h0;cases h;exact take_odd e h0 (hb.mono (by decide)) hs
    · split at h
      · cases h
      · split at h
        · cases h
        · cases h
def jD : Nat → Int → Int → List UInt8 → List Lne
  | 0,_,_,_=>[]
  | f + 1,tot,no,s=>match s with
    | []=>[]
    | s=>(no,tot - s.length,bytes (Lib.cut s [10]).1,(Lib.cut s [10]).2.2) :: jD f tot (no + 1) (Lib.cut s [10]).2.1
def yQ (s : ByteArray) : List Lne:=jD s.size s.size 0 (ls s)
def itLs (s : ByteArray) : List (List A):=(yQ s).map fun l=>[A.agg (toL rLne l)]
theorem cut_less {r : List UInt8} {c : UInt8} (h : r ≠ []) : (Lib.cut r [c]).2.1.length < r.length:=by
  by_cases hm : c ∈ r
  · obtain ⟨a,b,rfl,hn⟩:=List.eq_append_cons_of_mem hm;rw [cut_at hn,List.length_append,List.length_cons];show b.length < _;omega
  · rw [bT hm];exact List.length_pos_iff.2 h
theorem le_refl {nx0 : Nat} {tm : Tm} {ob : Obs} {nx : Nat} : Le nx0 tm ob nx tm ob nx:=⟨fun _ _ ρ _ _ hs=>⟨ρ,hs⟩⟩
theorem split_iter (s : ByteArray) (hs : s.size ≤ 1000000) : AIter Tryz.prog 76 [.one (.addr .str s)] (itLs s):=by
  refine aiter_of Tryz.func76 rfl rfl rfl teOk rfl ?_;intro l ι Pr J U n0 hU hab hy;refine yL ?_;refine xC hab hU rfl ?_;refine qH ?_;refine ⟨_,_,_,le_refl,?_⟩;refine yL ?_;refine xC hab hU rfl ?_;refine qH ?_;refine ⟨_,_,_,le_refl,?_⟩;refine kV ?_;refine gZ (κ:=Nat × Nat × List UInt8 × ByteArray × Bool) (fun i=>i.2.2.1.length ≤ i.1 ∧ i.2.1 + i.1 ≤ s.size ∧ i.2.1 ≤ (yQ s).length ∧ (yQ s).drop i.2.1 = jD i.1 s.size i.2.1 i.2.2.1) (fun i=>i.2.1) (fun i=>[(0,.one (.lit (.func (.yield l) #[] #[]))),(1,.one (.addr .str s)),(3,.one (.own 0 0)),(4,is (bytes i.2.2.1))]) (fun i=>[(0,.box 126 [.lit (.int .i64 i.2.1),.lit (.int .i64 (s.size - i.2.2.1.length)),.lit (.string i.2.2.2.1),.lit (.bool i.2.2.2.2)])]) 1 (fun i=>i.1) (s.size,0,ls s,ByteArray.empty,false) ⟨by rw [show (ls s).length = s.size from (yC s).symm];exact Nat.le_refl _,by simp,Nat.zero_le _,rfl⟩ hab hU (qP ⟨rfl,rfl,rfl,by rw [kA];rfl⟩ ?_ rfl) rfl ?_
  ·show leO _ [(0,Ob.box 126 [_,C.lit (.int .i64 ((s.size : Int) - ((ls s).length : Nat))),_,_])];rw [show (ls s).length = s.size from (yC s).symm,Int.sub_self];exact rfl
  intro i hi;obtain ⟨f,k,r,t0,e0⟩:=i;obtain ⟨h1,h2,h3,h4⟩:=hi;simp only at h1 h2 h3 h4;have hrs : r.length ≤ s.size:=Nat.le_trans h1 (by omega);refine yL ?_;refine yL ?_;refine xC hab hU rfl ?_;refine qH ?_;refine ⟨_,_,_,le_refl,?_⟩;refine kK rfl (fun hc=>?_) (fun hc=>?_)
  ·simp only at hc;have hne : r ≠ []:=fun e=>by
    have e' : bytes r = ⟨#[]⟩:=by rw [e];rfl
    rw [e'] at hc;simp at hc
   obtain ⟨f',hf⟩ : ∃ f',f = f' + 1:=⟨f - 1,by have:=List.length_pos_iff.2 hne;omega⟩;subst hf;have hd : (yQ s).drop k = ((k : Int),(s.size : Int) - r.length,bytes (Lib.cut r [10]).1,(Lib.cut r [10]).2.2) :: jD f' s.size (k + 1 : Nat) (Lib.cut r [10]).2.1:=by
    rw [h4];cases r with
    | nil=>exact absurd rfl hne
    | cons a r=>rfl
   have hk : k < (yQ s).length:=by
    rcases Nat.lt_or_ge k (yQ s).length with h|h
    ·exact h
    ·rw [List.drop_eq_nil_of_le h] at hd;cases hd
   have hget : (yQ s)[k] = ((k : Int),(s.size : Int) - r.length,bytes (Lib.cut r [10]).1,(Lib.cut r [10]).2.2):=by
    rw [List.drop_eq_getElem_cons hk] at hd;exact (List.cons.inj hd).1
   have hdrop : (yQ s).drop (k + 1) = jD f' s.size (k + 1 : Nat) (Lib.cut r [10]).2.1:=by
    rw [List.drop_eq_getElem_cons hk] at hd;exact (List.cons.inj hd).2
   have hkx : k < (itLs s).length:=by unfold itLs;rw [List.length_map];exact hk
   have hx : (itLs s)[k] = [A.agg (toL rLne ((k : Int),(s.size : Int) - r.length,bytes (Lib.cut r [10]).1,(Lib.cut r [10]).2.2))]:=by
    simp only [itLs,List.getElem_map,hget]
   have hcl : (Lib.cut r [10]).2.1.length < r.length:=cut_less hne;have hcc : qX Tryz.prog 77 [is (bytes r),is ⟨#[10]⟩] (.tup [(false,[.lit (.string (bytes (Lib.cut r [10]).1))]),(false,[.lit (.string (bytes (Lib.cut r [10]).2.1))]),(false,[.lit (.bool (Lib.cut r [10]).2.2)])]):=by
    have:=cut_c (bytes r) ⟨#[10]⟩ (by rw [yR];omega);rw [yN] at this;exact this
   generalize Lib.cut r [10] = c at *
   refine kJ ?_;refine kV ?_;refine yL ?_;refine xC hab hU rfl ?_;refine qH ?_;refine Or.inl ?_;refine zai (rfl) ?_;refine zei _ (zai hcc ?_);refine ⟨_,_,_,le_refl,?_⟩;refine yL ?_;refine yL ?_;refine aV (pre:=[_,_]) (post:=[_]) _ rfl rfl rfl hab hU hy hkx ?_;refine ⟨_,_,_,le_refl,rfl,?_,by rw [hx];rfl,?_⟩
   ·rw [hx];rfl
   ·intro st;refine ⟨_,_,_,le_refl,?_⟩;refine kK rfl (fun ht=>?_) (fun ht=>?_)
    ·refine aW ?_;rw [Bool.not_not] at ht;subst ht;exact ⟨.inl rfl,fun e=>by cases e⟩
    ·rw [Bool.not_not] at ht;subst ht;refine kJ ?_;refine yL ?_;refine xC hab hU rfl ?_;refine qH ?_;refine zai (by simp only;omega) ?_;refine ⟨_,_,_,le_refl,?_⟩;refine xC hab hU rfl ?_;refine qH ?_;refine zai (by rw [yR];omega) ?_;refine ⟨_,_,_,?_,⟨(f',k + 1,c.2.1,bytes c.1,c.2.2),⟨by simp only;omega,by simp only;omega,hk,hdrop⟩,Nat.lt_succ_self _,rfl,rfl,rfl,rfl,rfl⟩⟩;refine qP ⟨rfl,rfl,rfl,rfl⟩ ?_ rfl;show leO _ [(0,Ob.box 126 [C.lit (.int .i64 ((k + 1 : Nat) : Int)),C.lit (.int .i64 ((s.size : Int) - (c.2.1.length : Nat))),C.lit (.string (bytes c.1)),C.lit (.bool c.2.2)])];rw [← yR c.2.1];exact rfl
  ·have hr : r = []:=by
    simp only at hc;have : bytes r = ⟨#[]⟩:=by simpa using hc
    have:=congrArg (fun b=>b.data.toList) this
    simpa [yN] using this
   refine zA ?_;rw [hr] at h4;have h5 : (yQ s).drop k = []:=by rw [h4];cases f <;> rfl
   have h6:=List.drop_eq_nil_iff.1 h5;exact ⟨.inr rfl,fun _=>by simp only [itLs,List.length_map];omega⟩
theorem split_c (s : ByteArray) : qX Tryz.prog 47 [is s] (.one (.clo 76 (.addr .str s))):=by
  refine qW (rs:=[2]) Tryz.func47 rfl rfl rfl teOk rfl ?_;refine qB ?_;refine qB ?_;refine yD [0] ?_;refine qM ?_;rfl
def runS (p : PSt) : List Lne → (Int × Int) ⊕ PSt
  | []=>.inr p
  | l :: r=>match xY p l with
    | .inl e=>.inl e
    | .inr q=>runS q r
def kC (s : ByteArray) : (Int × Int) ⊕ List Itm:=match runS pst0 (yQ s) with
  | .inl e=>.inl e
  | .inr p=>match endS p with
    | .inl e=>.inl e
    | .inr q=>.inr q.its
def resP : (Int × Int) ⊕ List Itm → A
  | .inl e=>.tup [(false,[.sl rItm []]),(false,[errF e.1 e.2])]
  | .inr l=>.tup [(false,[.sl rItm l]),(false,[.lit .nilIface])]
theorem linesR_len : ∀ (f : Nat) (tot no : Int) (s : List UInt8),(jD f tot no s).length ≤ s.length ∧ ((jD f tot no s).map (·.2.2.1.size)).sum ≤ s.length
  | 0,_,_,_=>by simp [jD]
  | f + 1,tot,no,[]=>by simp [jD]
  | f + 1,tot,no,a :: r=>by
    obtain ⟨h1,h2⟩:=linesR_len f tot (no + 1) (Lib.cut (a :: r) [10]).2.1;have h3 : (Lib.cut (a :: r) [10]).2.1.length < (a :: r).length:=cut_less (by simp);have h4 : (Lib.cut (a :: r) [10]).1.length + (Lib.cut (a :: r) [10]).2.1.length ≤ (a :: r).length:=by
      by_cases hm : (10 : UInt8) ∈ a :: r
      · obtain ⟨x,b,e,hn⟩:=List.eq_append_cons_of_mem hm;rw [e,cut_at hn,List.length_append,List.length_cons];show x.length + b.length ≤ _;omega
      · rw [bT hm];exact Nat.le_refl _
    unfold jD;simp only [List.length_cons,List.map_cons,List.sum_cons,yR] at h3 h4 ⊢;exact ⟨by omega,by omega⟩
theorem uU (s : ByteArray) : (yQ s).length ≤ s.size ∧ ((yQ s).map (·.2.2.1.size)).sum ≤ s.size:=by
  have:=linesR_len s.size s.size 0 (ls s);rw [show (ls s).length = s.size from (yC s).symm] at this;exact this
def prP (L : List Lne) : Bool → Nat → PSt ⊕ (Int × Int) → Prop
  | false,k,.inl p=>runS pst0 L = runS p (L.drop k) ∧ ∃ B,PB p B ∧ B + 3 * (L.drop k).length + 2 * ((L.drop k).map (·.2.2.1.size)).sum ≤ 600000
  | true,_,.inr e=>runS pst0 L = .inl e
  | _,_,_=>False
def obP : PSt ⊕ (Int × Int) → Obs
  | .inl p=>[(0,.box 78 [.lit (.slice none 0 0)]),(1,.box 28 [.lit .nilIface]),(2,.box 121 [.vec 4,.lit (.int .i64 p.frm),.lit (.bool p.full),.vec 5,.vec 6,.vec 7,.lit (.int .i64 p.recs)]),(3,.box 116 [.own 2 0]),(4,.vec 9 .str p.lns),(5,.vec 85 rItm p.its),(6,.vec 9 .str p.blk),(7,.vec 114 rFld p.flds)]
  | .inr e=>[(0,.box 78 [.lit (.slice none 0 0)]),(1,.box 28 [errF e.1 e.2])]
theorem prP_next {L : List Lne} {k : Nat} {p q : PSt} {l : Lne} (hk : k < L.length) (hl : L[k] = l) (h : prP L false k (.inl p)) (ht : xY p l = .inr q) : prP L false (k + 1) (.inl q):=by
  obtain ⟨h1,B,h2,h3⟩:=h;rw [List.drop_eq_getElem_cons hk,hl] at h1 h3;simp only [runS,ht] at h1;simp only [List.length_cons,List.map_cons,List.sum_cons] at h3;exact ⟨h1,_,takeS_B h2 ht,by omega⟩
theorem prP_stop {L : List Lne} {k : Nat} {p : PSt} {e : Int × Int} {l : Lne} (hk : k < L.length) (hl : L[k] = l) (h : prP L false k (.inl p)) (ht : xY p l = .inl e) : prP L true (k + 1) (.inr e):=by
  obtain ⟨h1,B,h2,h3⟩:=h;rw [List.drop_eq_getElem_cons hk,hl] at h1;simp only [runS,ht] at h1;exact h1
theorem prP_B {L : List Lne} {k : Nat} {p : PSt} {l : Lne} (hk : k < L.length) (hl : L[k] = l) (h : prP L false k (.inl p)) : PB p 800000 ∧ l.2.2.1.size ≤ 300000:=by
  obtain ⟨h1,B,h2,h3⟩:=h;rw [List.drop_eq_getElem_cons hk,hl] at h3;simp only [List.length_cons,List.map_cons,List.sum_cons] at h3;exact ⟨h2.mono (by omega),by omega⟩
theorem prP_end {L : List Lne} {p : PSt} (h : prP L false L.length (.inl p)) : runS pst0 L = .inr p ∧ PB p 1000000:=by
  obtain ⟨h1,B,h2,h3⟩:=h;rw [List.drop_length] at h1;exact ⟨h1,h2.mono (by omega)⟩
theorem hC {s : ByteArray} {k : Nat} (hk : k < (yQ s).length) : ((yQ s)[k]).2.2.1.size ≤ s.size:=by
  have h:=(uU s).2;have h1 : (yQ s) = (yQ s).take k ++ (yQ s)[k] :: (yQ s).drop (k + 1):=by rw [← List.drop_eq_getElem_cons hk,List.take_append_drop]
  rw [h1,List.map_append,List.sum_append,List.map_cons,List.sum_cons] at h;omega
theorem parse_a (s : ByteArray) (hs : s.size ≤ 60000) : qX Tryz.prog 29 [is s] (resP (kC s)):=by
  have hlen:=uU s;refine yT (rs:=[.cell 2 78,.cell 3 28]) Tryz.func29 rfl rfl rfl teOk rfl ?_;refine qB ?_;refine qI ?_;refine qB ?_;refine qJ rfl (fun h10=>?_) (fun h10=>?_)
  ·try simp only [decide_eq_true_eq] at h10
   try simp only [zds] at h10
   omega
  ·try simp only [decide_eq_false_iff_not,Int.not_lt] at h10
   try simp only [zds] at h10
   refine qL ?_;refine qB ?_;refine qI ?_;refine qI ?_;refine yM 2 0 9 .str rfl rfl rfl ?_;refine yM 2 3 85 rItm rfl rfl rfl ?_;refine yM 2 4 9 .str rfl rfl rfl ?_;refine yM 2 5 114 rFld rfl rfl rfl ?_;refine qH ?_;refine Or.inl ?_;refine zai (rfl) ?_;refine zei _ (zai (split_c s) ?_);refine qN ?_;refine iT (caps:=[.one (.addr .str s)]) (xs:=itLs s) [(2,.one (.own 0 0)),(3,.one (.own 1 0)),(4,.one (.own 3 0)),(15,.one (.clo 76 (.addr .str s)))] 8 (prP (yQ s)) obP (fun _=>.ret) (.inl pst0) rfl rfl (split_iter s (by omega)) (qP ⟨rfl,rfl,rfl,rfl⟩ ⟨rfl,rfl,rfl,rfl,rfl,rfl,rfl,rfl⟩ rfl) ⟨rfl,0,⟨Nat.le_refl _,Nat.le_refl _,Nat.le_refl _,Nat.le_refl _,Nat.le_refl _,Nat.le_refl _,Int.le_refl _,Int.le_refl _⟩,by rw [List.drop_zero];omega⟩ (fun k hk=>by simp [itLs]) rfl rfl rfl (fun k i h=>by cases i with|inl p=>rfl|inr e=>exact h.elim) rfl ?_ ?_ ?_
   ·intro k i hk hp;have hk2 : k < (yQ s).length:=(by have:=hk;unfold itLs at this;rwa [List.length_map] at this);rw [show (itLs s)[k] = [A.agg (toL rLne ((yQ s)[k]))] from by simp [itLs]];obtain ⟨l,hl⟩ : ∃ l,(yQ s)[k] = l:=⟨_,rfl⟩;rw [hl];cases i with|inr e=>exact hp.elim|inl p=>?_
    obtain ⟨hB,hz⟩:=prP_B hk2 hl hp;have hz2 : l.2.2.1.size ≤ 90000:=(by have h1:=hC hk2;rw [hl] at h1;omega);refine qH ?_;refine qN ?_;refine qI ?_;rcases ht : xY p l with ⟨at_,n⟩|q
    ·refine qH ?_;refine Or.inr (Or.inl (zei [] (zei [2,4,5,6,7] (zei _ (zei _ (zei _ (zei _ (zei _ (zai (take_err ht hB hz2) (zai rfl (zai (zai (zai rfl rfl) (zai (zai rfl rfl) (zai (zai rfl rfl) (zai (zai rfl rfl) (zai (zai rfl rfl) True.intro))))) (zai rfl ?_))))))))))));refine qB ?_;refine qJ rfl (fun h21=>?_) (fun h21=>?_)
     ·skip
      refine qB ?_;refine qM ?_;exact ⟨.inr (at_,n),prP_stop hk2 hl hp ht,rfl,qP trivial ⟨rfl,rfl⟩ rfl⟩
     ·try simp only [zbq] at h21
      try simp only [zds] at h21
      cases h21
    ·refine qH ?_;refine Or.inr (Or.inl (zei [] (zei [2,4,5,6,7] (zei _ (zei _ (zei _ (zei _ (zei _ (zai (take_ok ht hB hz2) (zai rfl (zai (zai (zai rfl rfl) (zai (zai rfl rfl) (zai (zai rfl rfl) (zai (zai rfl rfl) (zai (zai rfl rfl) True.intro))))) (zai rfl ?_))))))))))));refine qB ?_;refine qJ rfl (fun h21=>?_) (fun h21=>?_)
     ·try simp only [Bool.not_eq_true'] at h21
      try simp only [zds] at h21
      cases h21
     ·try simp only [Bool.not_eq_false'] at h21
      try simp only [zds] at h21
      refine qL ?_;exact ⟨.inl q,prP_next hk2 hl hp ht,qP trivial ⟨rfl,rfl,rfl,rfl,rfl,rfl,rfl,rfl⟩ rfl⟩
   ·intro i hp;cases i with|inr e=>exact hp.elim|inl p=>?_
    rw [show (itLs s).length = (yQ s).length from by simp [itLs]] at hp;obtain ⟨hr,hB⟩:=prP_end hp;refine qI ?_;refine qI ?_;rcases he : endS p with ⟨at_,n⟩|q
    ·refine qH ?_;refine Or.inr (Or.inl (zei [] (zei [2,4,5,6,7] (zei _ (zei _ (zei _ (zei _ (zei _ (zai (end_err he hB) (zai rfl (zai (zai (zai rfl rfl) (zai (zai rfl rfl) (zai (zai rfl rfl) (zai (zai rfl rfl) (zai (zai rfl rfl) True.intro))))) (zai rfl ?_))))))))))));refine qB ?_;refine qJ rfl (fun h26=>?_) (fun h26=>?_)
     ·skip
      refine qB ?_;refine yM 0 0 85 rItm rfl rfl rfl ?_;refine qM ?_;rw [show kC s = .inl (at_,n) from by unfold kC;rw [hr];simp only [he]];exact rfl
     ·try simp only [zbq] at h26
      try simp only [zds] at h26
      cases h26
    ·refine qH ?_;refine Or.inr (Or.inl (zei [] (zei [2,4,5,6,7] (zei _ (zei _ (zei _ (zei _ (zei _ (zai (end_ok he hB) (zai rfl (zai (zai (zai rfl rfl) (zai (zai rfl rfl) (zai (zai rfl rfl) (zai (zai rfl rfl) (zai (zai rfl rfl) True.intro))))) (zai rfl ?_))))))))))));refine qB ?_;refine qJ rfl (fun h26=>?_) (fun h26=>?_)
     ·try simp only [Bool.not_eq_true'] at h26
      try simp only [zds] at h26
      cases h26
     ·try simp only [Bool.not_eq_false'] at h26
      try simp only [zds] at h26
      refine qL ?_;refine qB ?_;refine qM ?_;rw [show kC s = .inr q.its from by unfold kC;rw [hr];simp only [he]];exact rfl
   ·intro k i hp;cases i with|inl p=>exact hp.elim|inr e=>?_
    have hp : runS pst0 (yQ s) = .inl e:=hp;refine yM 0 0 85 rItm rfl rfl rfl ?_;refine qM ?_;rw [show kC s = .inl e from by unfold kC;rw [hp]];exact rfl
theorem gS (f : Nat) (tot no : Int) (a : UInt8) (r : List UInt8) : jD (f + 1) tot no (a :: r) = (no,tot - ((a :: r).length : Nat),bytes (Lib.cut (a :: r) [10]).1,(Lib.cut (a :: r) [10]).2.2) :: jD f tot (no + 1) (Lib.cut (a :: r) [10]).2.1:=rfl
theorem cut_cases {a : UInt8} {s : List UInt8} {c : UInt8} : (∃ x b,a :: s = x ++ c :: b ∧ c ∉ x ∧ Lib.cut (a :: s) [c] = (x,b,true)) ∨ (c ∉ a :: s ∧ Lib.cut (a :: s) [c] = (a :: s,[],false)):=by
  by_cases hm : c ∈ a :: s
  · obtain ⟨x,b,e,hn⟩:=List.eq_append_cons_of_mem hm;exact .inl ⟨x,b,e,hn,by rw [e];exact cut_at hn⟩
  · exact .inr ⟨hm,bT hm⟩
section
variable {I : List Itm} {c : Int} {p q p1 : PSt}
end
theorem run_app : ∀ (L M : List Lne) (p q : PSt),runS p L = .inr q → runS p (L ++ M) = runS q M
  | [],M,p,q,h=>by cases h;rfl
  | l :: r,M,p,q,h=>by
    simp only [runS,List.cons_append] at h ⊢;cases e : xY p l with
    | inl x=>rw [e] at h;cases h
    | inr p1 =>
      rw [e] at h;exact run_app r M p1 q h
def more (l : Lne) : Bool:=decide (yJ (ls l.2.2.1) = 3)
def gB (l : Lne) (r : List Lne) : List ByteArray:=l.2.2.1 :: (r.takeWhile more).map (·.2.2.1)
def xQ (bh : Bool) (l : Lne) (r : List Lne) (fields recs : Int) : Int :=
  if yJ (ls l.2.2.1) = 5 ∨ (yJ (ls l.2.2.1) = 3 ∧ bh = false) ∨ l.2.2.2 = false then 2
  else if yJ (ls l.2.2.1) ≠ 4 then 0
  else if (yU ((gB l r).map ls)).2 ≠ 0 then (yU ((gB l r).map ls)).2
  else if 40 ≤ fields ∨ (fields = 0 ∧ 400 ≤ recs) then 11
  else 0
structure RSt where
  kind : Int
  raw : ByteArray
  flds : List Fld
  out : List Itm
  recs : Int
def fldOf (L : List ByteArray) : Fld:=(bytes (yU (L.map ls)).1.1,bytes (yU (L.map ls)).1.2)
def xJ (t : RSt) (l : Lne) (r : List Lne) : RSt :=
  if yJ (ls l.2.2.1) = 1 then ⟨2,ByteArray.empty,[],(if t.raw = ByteArray.empty then t.out else t.out ++ [(t.kind,t.raw,t.flds)]) ++ [(1,l.2.2.1 ++ ⟨#[10]⟩,[])],t.recs⟩
  else if yJ (ls l.2.2.1) = 4 then ⟨3,t.raw ++ l.2.2.1 ++ ⟨#[10]⟩,t.flds ++ [fldOf (gB l r)],t.out,if t.kind = 2 then t.recs + 1 else t.recs⟩
  else { t with raw:=t.raw ++ l.2.2.1 ++ ⟨#[10]⟩ }
def runR (bh : Bool) (t : RSt) : List Lne → (Int × Int) ⊕ List Itm
  | []=>.inr (if t.raw = ByteArray.empty then t.out else t.out ++ [(t.kind,t.raw,t.flds)])
  | l :: r=>if xQ bh l r t.flds.length t.recs ≠ 0 then .inl (l.1,xQ bh l r t.flds.length t.recs)
    else runR (decide (yJ (ls l.2.2.1) = 4) || decide (yJ (ls l.2.2.1) = 3)) (xJ t l r) r
def rst0 : RSt:=⟨2,ByteArray.empty,[],[],0⟩
def outP (p : PSt) (L : List Lne) : (Int × Int) ⊕ List Itm:=match runS p L with
  | .inl e=>.inl e
  | .inr q=>match endS q with
    | .inl e=>.inl e
    | .inr q=>.inr q.its
theorem outP_cons (p : PSt) (l : Lne) (r : List Lne) : outP p (l :: r) = match xY p l with
    | .inl e=>.inl e
    | .inr q=>outP q r:=by
  unfold outP;simp only [runS];cases xY p l <;> rfl
theorem parse_out (s : ByteArray) : kC s = outP pst0 (yQ s):=rfl
def Ends : List Lne → Prop
  | []=>True
  | l :: r=>(l.2.2.2 = false → r = []) ∧ Ends r
theorem iN : ∀ (f : Nat) (tot no : Int) (s : List UInt8),Ends (jD f tot no s)
  | 0,_,_,_=>trivial
  | f + 1,_,_,[]=>trivial
  | f + 1,tot,no,a :: r=>by
    rw [gS];refine ⟨fun h=>?_,iN f _ _ _⟩;rcases cut_cases (a:=a) (s:=r) (c:=10) with ⟨x,b,e,_,hc⟩|⟨_,hc⟩
    · rw [hc] at h;cases h
    · rw [hc];cases f <;> rfl
theorem not_more {l : Lne} (h : yJ (ls l.2.2.1) ≠ 3) (r : List Lne) : (l :: r).takeWhile more = []:=by
  rw [List.takeWhile_cons_of_neg (by unfold more;simp [h])]
theorem is_more {l : Lne} (h : yJ (ls l.2.2.1) = 3) (r : List Lne) : (l :: r).takeWhile more = l :: r.takeWhile more:=by
  rw [List.takeWhile_cons_of_pos (by unfold more;simp [h])]
theorem pend_err : ∀ (r : List Lne) (p : PSt) (at_ n : Int),Ends r → p.lns ≠ [] → (∀ q : PSt,q.lns = p.lns ++ (r.takeWhile more).map (·.2.2.1) → q.full = p.full → q.frm = p.frm → kD q = .inl (at_,n)) → outP p r = .inl (at_,n)
  | [],p,at_,n,_,h0,hf=>by
    have:=hf p (by simp) rfl rfl;unfold outP;simp only [runS,endS,this]
  | l :: r,p,at_,n,hE,h0,hf=>by
    rw [outP_cons]
    by_cases hm : yJ (ls l.2.2.1) = 3
    · rw [is_more hm] at hf
      by_cases he : l.2.2.2 = true
      · have ht : xY p l = .inr { p with lns:=p.lns ++ [l.2.2.1],blk:=p.blk ++ [l.2.2.1] }:=by
          unfold xY;simp only [hm];simp [kE,gF,h0,he]
        rw [ht];exact pend_err r _ at_ n hE.2 (by simp) (fun q h1 h2 h3=>hf q (by rw [h1];simp) h2 h3)
      · obtain rfl:=hE.1 (by simpa using he);have hfp:=hf { p with lns:=p.lns ++ [l.2.2.1] } (by simp) rfl rfl;have ht : xY p l = .inl (at_,n):=by
          unfold xY kE;rw [if_pos hm,if_neg h0,if_neg he,hfp]
        rw [ht]
    · rw [not_more hm] at hf;have hfp:=hf p (by simp) rfl rfl;have ht : xY p l = .inl (at_,n):=by
        unfold xY kE;rw [if_neg hm];unfold endS;rw [hfp];simp
      rw [ht]
def rawC (b : List ByteArray) : ByteArray:=bytes (endL (b.map ls))
theorem fU (b : List ByteArray) (x : ByteArray) : rawC (b ++ [x]) = rawC b ++ x ++ ⟨#[10]⟩:=by
  unfold rawC endL;rw [List.map_append,List.flatMap_append,xS,ByteArray.append_assoc]
  congr 1
  simp only [List.map_cons,List.map_nil,List.flatMap_cons,List.flatMap_nil,List.append_nil];rw [xS,kA];rfl
theorem join_endL (c : UInt8) : ∀ (l : List (List UInt8)),l ≠ [] → Lib.join l [c] ++ [c] = l.flatMap fun s=>s ++ [c]
  | [],h=>absurd rfl h
  | [a],_=>by rw [Lib.join_one];simp
  | a :: b :: r,_=>by
    have:=join_endL c (b :: r) (by simp);rw [vI,List.flatMap_cons,← this];simp
theorem rawB_C {b : List ByteArray} (h : b ≠ []) : rawB b = rawC b:=by
  unfold rawB rawC endL;rw [show b.map ls = b.map (·.data.toList) from rfl,← join_endL 10 (b.map (·.data.toList)) (by simpa using h),xS];rfl
theorem rawC_nil {b : List ByteArray} : rawC b = ByteArray.empty ↔ b = []:=by
  refine ⟨fun h=>?_,fun h=>by rw [h];rfl⟩;cases b with
  | nil=>rfl
  | cons x r =>
    have:=congrArg ByteArray.size h;unfold rawC endL at this;rw [yR] at this;simp at this
structure Alike (p : PSt) (t : RSt) (bh : Bool) (L : List Lne) : Prop where
  its : t.out = p.its
  raw : t.raw = rawC p.blk
  bh : bh = true ↔ p.lns ≠ []
  flds : t.flds = p.flds ++ (if p.lns = [] then [] else [fldOf (p.lns ++ (L.takeWhile more).map (·.2.2.1))])
  kind : t.kind = if t.flds = [] then 2 else 3
  recs : t.recs = p.recs + (if t.flds = [] then 0 else 1)
  pend : p.lns ≠ [] → p.full = false ∧ (yU ((p.lns ++ (L.takeWhile more).map (·.2.2.1)).map ls)).2 = 0
  blk0 : p.blk = [] → t.flds = []
  r4 : p.recs ≤ 400
  rf : t.flds ≠ [] → p.recs < 400
  f40 : t.flds.length ≤ 40
section
variable {p : PSt} {t : RSt} {bh : Bool} {L : List Lne}
theorem iR (h : Alike p t bh L) (hL : L.takeWhile more = []) : ∃ q,kD p = .inr q ∧ q.lns = [] ∧ q.flds = t.flds ∧ q.its = p.its ∧ q.blk = p.blk ∧ q.recs = p.recs:=by
  by_cases h0 : p.lns = []
  · refine ⟨p,by unfold kD;rw [if_pos h0],h0,?_,rfl,rfl,rfl⟩;rw [h.flds,if_pos h0,List.append_nil]
  · obtain ⟨h1,h2⟩:=h.pend h0;rw [hL,List.map_nil,List.append_nil] at h2;refine ⟨{ p with flds:=p.flds ++ [(bytes (yU (p.lns.map ls)).1.1,bytes (yU (p.lns.map ls)).1.2)],lns:=[] },?_,rfl,?_,rfl,rfl,rfl⟩
    · unfold kD;rw [if_neg h0,if_neg (by rw [h2];simp),if_neg (by rw [h1];simp)]
    · rw [h.flds,if_neg h0,hL];simp [fldOf]
theorem alike_end (h : Alike p t bh L) (hL : L.takeWhile more = []) : ∃ q,endS p = .inr q ∧ q.lns = [] ∧ q.flds = [] ∧ q.blk = [] ∧ q.its = (if t.raw = ByteArray.empty then t.out else t.out ++ [(t.kind,t.raw,t.flds)]) ∧ q.recs = t.recs:=by
  obtain ⟨q,f1,f2,f3,f4,f5,f6⟩:=iR h hL;refine ⟨bV q,by unfold endS;rw [f1],?_⟩;unfold bV
  by_cases hb : p.blk = []
  · have hraw : t.raw = ByteArray.empty:=by rw [h.raw];exact rawC_nil.2 hb
    rw [if_pos (f5.trans hb),if_pos hraw];refine ⟨f2,rfl,rfl,by rw [h.its];exact f4,?_⟩;rw [h.recs,if_pos (h.blk0 hb),Int.add_zero];exact f6
  · have hraw : ¬ t.raw = ByteArray.empty:=fun e=>hb (rawC_nil.1 (by rw [← h.raw];exact e))
    rw [if_neg (by rw [f5];exact hb),if_neg hraw];refine ⟨f2,rfl,rfl,?_,?_⟩
    · simp only [h.its,h.kind,h.raw,rawB_C hb,f3,f4,f5]
    · simp only [f3,f6];rw [h.recs]
      by_cases hf : t.flds = []
      · simp [hf]
      · simp [hf]
end
theorem run_eq : ∀ (L : List Lne) (p : PSt) (t : RSt) (bh : Bool),Ends L → Alike p t bh L → outP p L = runR bh t L
  | [],p,t,bh,_,h=>by
    obtain ⟨q,e,_,_,_,h1,_⟩:=alike_end h rfl;unfold outP;simp only [runS,e,h1];rfl
  | l :: r,p,t,bh,hE,h=>by
    rw [outP_cons];unfold runR
    by_cases h3 : yJ (ls l.2.2.1) = 3
    · by_cases hb : p.lns = []
      · have hbh : bh = false:=by
          cases bh
          · rfl
          · exact absurd hb (h.bh.1 rfl)
        have hw : xQ bh l r t.flds.length t.recs = 2:=by
          unfold xQ;rw [if_pos (.inr (.inl ⟨h3,hbh⟩))]
        have ht : xY p l = .inl (l.1,2):=by
          unfold xY kE;rw [if_pos h3,if_pos hb]
        rw [hw,ht];rfl
      · have hbh : bh = true:=h.bh.2 hb;obtain ⟨h5,h6⟩:=h.pend hb;rw [is_more h3] at h6
        by_cases he : l.2.2.2 = true
        · have hw : xQ bh l r t.flds.length t.recs = 0:=by
            unfold xQ;rw [if_neg (by simp [h3,hbh,he]),if_pos (by rw [h3];decide)]
          have ht : xY p l = .inr { p with lns:=p.lns ++ [l.2.2.1],blk:=p.blk ++ [l.2.2.1] }:=by
            unfold xY;simp only [h3];simp [kE,gF,hb,he]
          rw [hw,ht,if_neg (by decide)];refine run_eq r _ _ _ hE.2 ?_;have hfl:=h.flds;rw [if_neg hb,is_more h3] at hfl;have hne : t.flds ≠ []:=by rw [hfl];simp
          unfold xJ;rw [if_neg (by rw [h3];decide),if_neg (by rw [h3];decide)];exact ⟨h.its,by simp only [h.raw,fU],by simp [h3],by simp only;rw [hfl,if_neg (by simp)];simp,h.kind,h.recs,fun _=>⟨h5,by simpa using h6⟩,fun e=>by simp at e,h.r4,h.rf,h.f40⟩
        · have he' : l.2.2.2 = false:=by simpa using he
          obtain rfl:=hE.1 he';have hw : xQ bh l [] t.flds.length t.recs = 2:=by
            unfold xQ;rw [if_pos (.inr (.inr he'))]
          have ht : xY p l = .inl (l.1,2):=by
            have : kE p l 3 = .inr { p with flds:=p.flds ++ [(bytes (yU ((p.lns ++ [l.2.2.1]).map ls)).1.1,bytes (yU ((p.lns ++ [l.2.2.1]).map ls)).1.2)],lns:=[] }:=by
              unfold kE;rw [if_pos rfl,if_neg hb,if_neg he];unfold kD;simp only [List.takeWhile_nil,List.map_cons,List.map_nil] at h6;rw [if_neg (by simp),if_neg (by simp only [ne_eq,h6];simp),if_neg (by simp [h5])]
            unfold xY;rw [h3,this];simp [gF,he']
          rw [hw,ht];rfl
    · have hno:=not_more h3 r
      by_cases h1 : yJ (ls l.2.2.1) = 1
      · obtain ⟨q,e,e1,e2,e3,e4,e5⟩:=alike_end h hno
        by_cases he : l.2.2.2 = true
        · have hw : xQ bh l r t.flds.length t.recs = 0:=by
            unfold xQ;rw [if_neg (by simp [h1,he]),if_pos (by rw [h1];decide)]
          have ht : xY p l = .inr { q with its:=q.its ++ [(1,l.2.2.1 ++ ⟨#[10]⟩,[])] }:=by
            unfold xY kE;rw [if_neg h3,if_pos h1,e];simp [gF,h1,he]
          rw [hw,ht,if_neg (by decide)];refine run_eq r _ _ _ hE.2 ?_;unfold xJ;rw [if_pos h1];refine ⟨by simp only [e4],by rw [e3];rfl,by simp [h1,e1],by simp [e1,e2],rfl,by simp [e5],fun h=>absurd e1 h,fun _=>rfl,?_,fun e=>absurd rfl e,by simp⟩;simp only [e5,h.recs];split
          · have:=h.r4;omega
          · rename_i hf;have:=h.rf hf;omega
        · have he' : l.2.2.2 = false:=by simpa using he
          have hw : xQ bh l r t.flds.length t.recs = 2:=by
            unfold xQ;rw [if_pos (.inr (.inr he'))]
          have ht : xY p l = .inl (l.1,2):=by
            unfold xY kE;rw [if_neg h3,if_pos h1,e];simp [gF,he']
          rw [hw,ht];rfl
      · obtain ⟨q,f1,f2,f3,f4,f5,f6⟩:=iR h hno;have hah : kE p l (yJ (ls l.2.2.1)) = .inr q:=by
          unfold kE;rw [if_neg h3,if_neg h1,f1]
        by_cases hbad : yJ (ls l.2.2.1) = 5 ∨ l.2.2.2 = false
        · have hw : xQ bh l r t.flds.length t.recs = 2:=by
            unfold xQ;rw [if_pos (hbad.elim .inl (fun h=>.inr (.inr h)))]
          have ht : xY p l = .inl (l.1,2):=by
            unfold xY gF;rw [hah];simp only;rw [if_pos hbad]
          rw [hw,ht];rfl
        · have hb5 : yJ (ls l.2.2.1) ≠ 5:=fun e=>hbad (.inl e)
          have he : l.2.2.2 = true:=by
            cases e : l.2.2.2
            · exact absurd (.inr e) hbad
            · rfl
          by_cases h4 : yJ (ls l.2.2.1) = 4
          · have ht : xY p l = .inr { jH q l with blk:=q.blk ++ [l.2.2.1] }:=by
              unfold xY gF;rw [hah];simp only;rw [if_neg hbad,if_neg h1,if_pos h4]
            have hfull : ((decide ((q.flds.length : Int) = 40) || (decide ((q.flds.length : Int) = 0) && decide (q.recs = 400))) = true) ↔ (40 ≤ (t.flds.length : Int) ∨ ((t.flds.length : Int) = 0 ∧ 400 ≤ t.recs)):=by
              have g1:=h.f40;have g2:=h.r4;have g3:=h.recs;rw [f3,f6];simp only [Bool.or_eq_true,Bool.and_eq_true,decide_eq_true_eq]
              constructor
              · rintro (g|⟨g,g'⟩)
                · exact .inl (by omega)
                · refine .inr ⟨g,?_⟩;rw [if_pos (List.eq_nil_of_length_eq_zero (by omega))] at g3;omega
              · rintro (g|⟨g,g'⟩)
                · exact .inl (by omega)
                · refine .inr ⟨g,?_⟩;rw [if_pos (List.eq_nil_of_length_eq_zero (by omega))] at g3;omega
            rw [ht]
            by_cases hu : (yU ((gB l r).map ls)).2 = 0
            · by_cases hfu : 40 ≤ (t.flds.length : Int) ∨ ((t.flds.length : Int) = 0 ∧ 400 ≤ t.recs)
              · have hw : xQ bh l r t.flds.length t.recs = 11:=by
                  unfold xQ;rw [if_neg (by simp [h4,he]),if_neg (by simp [h4]),if_neg (by simp [hu]),if_pos hfu]
                rw [hw,if_pos (by decide)];refine pend_err r _ l.1 11 hE.2 (by simp [jH]) (fun q' g1 g2 g3=>?_);have g1' : q'.lns = gB l r:=g1;have g2' : q'.full = true:=g2.trans (hfull.2 hfu);have g3' : q'.frm = l.1:=g3;unfold kD;rw [g1',if_neg (by unfold gB;simp),if_neg (by simp [hu]),if_pos g2',g3']
              · have hw : xQ bh l r t.flds.length t.recs = 0:=by
                  unfold xQ;rw [if_neg (by simp [h4,he]),if_neg (by simp [h4]),if_neg (by simp [hu]),if_neg hfu]
                rw [hw,if_neg (by decide)];refine run_eq r _ _ _ hE.2 ?_;have hff : (decide ((q.flds.length : Int) = 40) || (decide ((q.flds.length : Int) = 0) && decide (q.recs = 400))) = false:=by
                  cases e : (decide ((q.flds.length : Int) = 40) || (decide ((q.flds.length : Int) = 0) && decide (q.recs = 400)))
                  · rfl
                  · exact absurd (hfull.1 e) hfu
                unfold xJ;rw [if_neg h1,if_pos h4];refine ⟨by simp only [jH,h.its,f4],by simp only [h.raw,fU,f5],by simp [h4,jH],?_,by simp,?_,fun _=>⟨hff,hu⟩,fun e=>by simp at e,?_,fun _=>?_,?_⟩
                · simp only [jH,f3];rw [if_neg (by simp)];rfl
                · simp only [jH,f6];have g3:=h.recs;have g4:=h.kind
                  by_cases hf : t.flds = []
                  · rw [if_pos hf] at g3 g4;rw [if_pos g4,if_neg (by simp),g3];omega
                  · rw [if_neg hf] at g3 g4;rw [if_neg (by rw [g4];decide),if_neg (by simp),g3]
                · simp only [jH,f6];exact h.r4
                · simp only [jH,f6]
                  by_cases hf : t.flds = []
                  · have g3:=h.recs;rw [if_pos hf] at g3;have : ¬ 400 ≤ t.recs:=fun e=>hfu (.inr ⟨by rw [hf];rfl,e⟩)
                    omega
                  · exact h.rf hf
                · rw [List.length_append,List.length_singleton];have : ¬ 40 ≤ (t.flds.length : Int):=fun e=>hfu (.inl e)
                  omega
            · have hw : xQ bh l r t.flds.length t.recs = (yU ((gB l r).map ls)).2:=by
                unfold xQ;rw [if_neg (by simp [h4,he]),if_neg (by simp [h4]),if_pos hu]
              rw [hw,if_pos hu];refine pend_err r _ l.1 _ hE.2 (by simp [jH]) (fun q' g1 g2 g3=>?_);have g1' : q'.lns = gB l r:=g1;have g3' : q'.frm = l.1:=g3;unfold kD;rw [g1',if_neg (by unfold gB;simp),if_pos hu,g3']
          · have hw : xQ bh l r t.flds.length t.recs = 0:=by
              unfold xQ;rw [if_neg (by simp [h3,hb5,he]),if_pos h4]
            have ht : xY p l = .inr { q with blk:=q.blk ++ [l.2.2.1] }:=by
              unfold xY gF;rw [hah];simp only;rw [if_neg hbad,if_neg h1,if_neg h4]
            rw [hw,ht,if_neg (by decide)];refine run_eq r _ _ _ hE.2 ?_;unfold xJ;rw [if_neg h1,if_neg h4];exact ⟨by simp only [h.its,f4],by simp only [h.raw,fU,f5],by simp [h3,h4,f2],by simp [f2,f3],h.kind,by simp only [f6];exact h.recs,fun e=>absurd f2 e,fun e=>by simp at e,by simp only [f6];exact h.r4,by simp only [f6];exact h.rf,h.f40⟩
theorem cG (s : ByteArray) : kC s = runR false rst0 (yQ s):=by
  rw [parse_out];exact run_eq _ _ _ _ (iN _ _ _ _) ⟨rfl,rfl,by simp [pst0],by simp [rst0,pst0],rfl,rfl,fun e=>absurd rfl e,fun _=>rfl,by decide,fun e=>absurd rfl e,by simp [rst0]⟩
theorem no_step {l : List UInt8} {i : Nat} (h : (10 : UInt8) ∉ l.take i) (hi : i < l.length) (h2 : ¬ ((l.getD i 0).toNat : Int) = 10) : (10 : UInt8) ∉ l.take (i + 1):=by
  rw [List.take_succ_eq_append_getElem hi];simp only [List.mem_append,List.mem_singleton,not_or];refine ⟨h,fun e=>h2 ?_⟩;have : l.getD i 0 = 10:=by simp [List.getD,hi,← e]
  rw [this];rfl
theorem ext_drop (s : ByteArray) (n : Nat) : s.extract n s.size = bytes ((ls s).drop n):=by
  rw [← kA (s.extract n s.size)]
  congr 1
  exact iA s n
end Q
end Ab
end Go.Proofs.YtmaekcmknibmeaaGreatDoor
