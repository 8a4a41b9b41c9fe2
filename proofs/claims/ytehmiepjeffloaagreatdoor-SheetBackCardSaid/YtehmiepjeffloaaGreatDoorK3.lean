/-
  The texts of this proof, joined: abstract values, the library, the functions of the program and what they compute (part 3). No condition.
-/
import Derived.Test.YtehmiepjeffloaaGreatDoorRows
import Derived.Lib.Strings
import Derived.Lib.Slices
import Derived.Lib.Walk
import Derived.Lib.Builder
import Derived.Lib.AppendStr
import Derived.Lib.OthersKept
import Derived.WalkKit
import Derived.Laws.Externs
import Derived.Laws.IdiomCopy
import Derived.Lib.UnsafeStr
import Derived.Shelf.RegionOpenPlain
import Derived.Shelf.Strings.Builder1
import Derived.Shelf.Strings.Builder2
import Derived.Shelf.Strings.OnBuilder
import Derived.Shelf.Strings.Trim
import Derived.Shelf.Small.Utf8
import Derived.Shelf.Small.Strs
import Derived.Shelf.Strings.BuilderF
import Derived.Shelf.Strings.BuilderK
import Derived.Shelf.Utf8.RuneCount
import Derived.Shelf.Strings.Builder2Cap
import Derived.Shelf.Strings.Search1
import Derived.Shelf.Strings.Search2
import Derived.Shelf.Strings.Search3
import Derived.Shelf.Strings.Cut
import Derived.Shelf.Strings.Count
import Derived.Shelf.LaysM
import Derived.Shelf.Strings.Shaped
import Derived.Shelf.Strings.Prefix
import Derived.Shelf.Strings.Split
import Derived.Shelf.Strings.Replace
import Derived.Shelf.Strings.SplitShaped
import Derived.Shelf.Unicode.Decode
import Derived.Shelf.Strings.Runes
import Derived.Shelf.Strings.RuneCount
import Derived.Shelf.Strings.IndexAny
import Derived.Shelf.Strings.AsciiSet
import Derived.Shelf.Strings.IndexAnyAll
import Derived.Shelf.Strings.Explode
import Derived.Shelf.Unicode.DecodeSlow
import Derived.Shelf.Unicode.DecodeAny
import Derived.Shelf.Unicode.DecodeLast
import Derived.Shelf.Strings.BuilderCap
import Derived.Shelf.Slices.Turned
import Derived.Test.YtehmiepjeffloaaGreatDoorProg
import Derived.Lib.SplitLaws
import Derived.Shelf.Strings.SlTrimAscii
import Derived.Lib.Join
import Derived.Lib.SlTrimSet
import Derived.Laws.RangeAny
import Derived.Laws.Runes
import Derived.Lib.DecodeN
import Derived.Lib.Replace
import Derived.Lib.ReplaceLaws
import Derived.Test.YtehmiepjeffloaaGreatDoorK1
import Derived.Test.YtehmiepjeffloaaGreatDoorK2
namespace Go.Proofs.YtehmiepjeffloaaGreatDoor
open Go.RowKit
namespace Ab
def ty3 : TyI:=⟨.int .i64,1,8,[.int .i64 0],some ⟨_,(.int .i64)⟩,true⟩
theorem tyOk3 : TyOk Tryz.prog 3 ty3:=qW (by kernel_rfl) Tryz.underlying3 rfl (by decide) rfl (fun _ _ h=>by cases h;rfl) (fun _=>by kernel_rfl)
def ty9 : TyI:=⟨.str,1,16,[.string ⟨#[]⟩],some ⟨_,.str⟩,true⟩
theorem tyOk9 : TyOk Tryz.prog 9 ty9:=qW (by kernel_rfl) Tryz.underlying9 rfl (by decide) rfl (fun _ _ h=>by cases h;rfl) (fun _=>by kernel_rfl)
def ty22 : TyI:=⟨.slice 9,1,24,[.slice none 0 0],some ⟨_,(.sl .str)⟩,false⟩
theorem tyOk22 : TyOk Tryz.prog 22 ty22:=qW (by kernel_rfl) Tryz.underlying22 rfl (by decide) rfl (fun _ _ h=>by cases h;rfl) (fun h=>by cases h)
def ty53 : TyI:=⟨.slice 66,1,24,[.slice none 0 0],some ⟨_,(.sl (.st .str .str))⟩,false⟩
theorem tyOk53 : TyOk Tryz.prog 53 ty53:=qW (by kernel_rfl) Tryz.underlying53 rfl (by decide) rfl (fun _ _ h=>by cases h;rfl) (fun h=>by cases h)
def ty5 : TyI:=⟨.int .u8,1,1,[.int .u8 0],some ⟨_,(.int .u8)⟩,true⟩
theorem tyOk5 : TyOk Tryz.prog 5 ty5:=qW (by kernel_rfl) Tryz.underlying5 rfl (by decide) rfl (fun _ _ h=>by cases h;rfl) (fun _=>by kernel_rfl)
def ty66 : TyI:=⟨.struct [(0,9),(1,9)],2,32,[.string ⟨#[]⟩,.string ⟨#[]⟩],some ⟨_,(.st .str .str)⟩,true⟩
theorem tyOk66 : TyOk Tryz.prog 66 ty66:=qW (by kernel_rfl) ⟨by kernel_rfl,by kernel_rfl,by kernel_rfl,by kernel_rfl,by kernel_rfl⟩ rfl (by decide) rfl (fun _ _ h=>by cases h;rfl) (fun _=>by kernel_rfl)
def ty77 : TyI:=⟨.slice 83,1,24,[.slice none 0 0],some ⟨_,(.sl (.st (.st (.int .i64) (.st .str (.sl (.st .str .str)))) (.int .i64)))⟩,false⟩
theorem tyOk77 : TyOk Tryz.prog 77 ty77:=qW (by kernel_rfl) Tryz.underlying77 rfl (by decide) rfl (fun _ _ h=>by cases h;rfl) (fun h=>by cases h)
def ty21 : TyI:=⟨.int .i32,1,4,[.int .i32 0],some ⟨_,(.int .i32)⟩,true⟩
theorem tyOk21 : TyOk Tryz.prog 21 ty21:=qW (by kernel_rfl) Tryz.underlying21 rfl (by decide) rfl (fun _ _ h=>by cases h;rfl) (fun _=>by kernel_rfl)
def ty26 : TyI:=⟨.iface,1,16,[.nilIface],some ⟨_,.raw⟩,false⟩
theorem tyOk26 : TyOk Tryz.prog 26 ty26:=qW (by kernel_rfl) ⟨_,Tryz.underlying26⟩ rfl (by decide) rfl (fun _ _ h=>by cases h;rfl) (fun h=>by cases h)
def ty64 : TyI:=⟨.slice 22,1,24,[.slice none 0 0],some ⟨_,(.sl (.sl .str))⟩,false⟩
theorem tyOk64 : TyOk Tryz.prog 64 ty64:=qW (by kernel_rfl) Tryz.underlying64 rfl (by decide) rfl (fun _ _ h=>by cases h;rfl) (fun h=>by cases h)
def ty4 : TyI:=⟨.bool,1,1,[.bool false],some ⟨_,.bool⟩,true⟩
theorem tyOk4 : TyOk Tryz.prog 4 ty4:=qW (by kernel_rfl) Tryz.underlying4 rfl (by decide) rfl (fun _ _ h=>by cases h;rfl) (fun _=>by kernel_rfl)
def ty119 : TyI:=⟨.struct [(0,116),(1,117)],2,32,[.pointer none,.slice none 0 0],none,false⟩
theorem tyOk119 : TyOk Tryz.prog 119 ty119:=qW (by kernel_rfl) ⟨by kernel_rfl,by kernel_rfl,by kernel_rfl,by kernel_rfl,by kernel_rfl⟩ rfl (by decide) rfl (fun _ _ h=>by cases h) (fun h=>by cases h)
def ty81 : TyI:=⟨.struct [(0,3),(1,9),(2,53)],3,48,[.int .i64 0,.string ⟨#[]⟩,.slice none 0 0],some ⟨_,(.st (.int .i64) (.st .str (.sl (.st .str .str))))⟩,false⟩
theorem tyOk81 : TyOk Tryz.prog 81 ty81:=qW (by kernel_rfl) ⟨by kernel_rfl,by kernel_rfl,by kernel_rfl,by kernel_rfl,by kernel_rfl⟩ rfl (by decide) rfl (fun _ _ h=>by cases h;rfl) (fun h=>by cases h)
def ty48 : TyI:=⟨.slice 53,1,24,[.slice none 0 0],some ⟨_,(.sl (.sl (.st .str .str)))⟩,false⟩
theorem tyOk48 : TyOk Tryz.prog 48 ty48:=qW (by kernel_rfl) Tryz.underlying48 rfl (by decide) rfl (fun _ _ h=>by cases h;rfl) (fun h=>by cases h)
def ty129 : TyI:=⟨.struct [(0,127),(3,74),(4,22),(5,53),(6,3)],7,120,[.slice none 0 0,.int .i64 0,.bool false,.slice none 0 0,.slice none 0 0,.slice none 0 0,.int .i64 0],some ⟨_,(.st (.st (.sl .str) (.st (.int .i64) .bool)) (.st (.sl (.st (.int .i64) (.st .str (.sl (.st .str .str))))) (.st (.sl .str) (.st (.sl (.st .str .str)) (.int .i64)))))⟩,false⟩
theorem tyOk129 : TyOk Tryz.prog 129 ty129:=qW (by kernel_rfl) ⟨by kernel_rfl,by kernel_rfl,by kernel_rfl,by kernel_rfl,by kernel_rfl⟩ rfl (by decide) rfl (fun _ _ h=>by cases h;rfl) (fun h=>by cases h)
def ty134 : TyI:=⟨.struct [(0,3),(1,3),(2,9),(3,4)],4,40,[.int .i64 0,.int .i64 0,.string ⟨#[]⟩,.bool false],some ⟨_,(.st (.int .i64) (.st (.int .i64) (.st .str .bool)))⟩,true⟩
theorem tyOk134 : TyOk Tryz.prog 134 ty134:=qW (by kernel_rfl) ⟨by kernel_rfl,by kernel_rfl,by kernel_rfl,by kernel_rfl,by kernel_rfl⟩ rfl (by decide) rfl (fun _ _ h=>by cases h;rfl) (fun _=>by kernel_rfl)
def ty31 : TyI:=⟨.struct [(0,29),(1,3)],2,32,[.slice none 0 0,.int .i64 0],some ⟨_,(.st (.sl (.st (.st (.int .i64) (.st .str (.sl (.st .str .str)))) (.int .i64))) (.int .i64))⟩,false⟩
theorem tyOk31 : TyOk Tryz.prog 31 ty31:=qW (by kernel_rfl) ⟨by kernel_rfl,by kernel_rfl,by kernel_rfl,by kernel_rfl,by kernel_rfl⟩ rfl (by decide) rfl (fun _ _ h=>by cases h;rfl) (fun h=>by cases h)
def ty74 : TyI:=⟨.slice 81,1,24,[.slice none 0 0],some ⟨_,(.sl (.st (.int .i64) (.st .str (.sl (.st .str .str)))))⟩,false⟩
theorem tyOk74 : TyOk Tryz.prog 74 ty74:=qW (by kernel_rfl) Tryz.underlying74 rfl (by decide) rfl (fun _ _ h=>by cases h;rfl) (fun h=>by cases h)
def ty45 : TyI:=⟨.slice 55,1,24,[.slice none 0 0],some ⟨_,(.sl (.st (.int .i64) (.st (.int .i64) (.sl (.st .str .str)))))⟩,false⟩
theorem tyOk45 : TyOk Tryz.prog 45 ty45:=qW (by kernel_rfl) Tryz.underlying45 rfl (by decide) rfl (fun _ _ h=>by cases h;rfl) (fun h=>by cases h)
def ty41 : TyI:=⟨.int .i64,1,8,[.int .i64 0],some ⟨_,(.int .i64)⟩,true⟩
theorem tyOk41 : TyOk Tryz.prog 41 ty41:=qW (by kernel_rfl) Tryz.underlying41 rfl (by decide) rfl (fun _ _ h=>by cases h;rfl) (fun _=>by kernel_rfl)
def ty58 : TyI:=⟨.slice 62,1,24,[.slice none 0 0],some ⟨_,(.sl (.st (.int .i64) (.sl (.st .str .str))))⟩,false⟩
theorem tyOk58 : TyOk Tryz.prog 58 ty58:=qW (by kernel_rfl) Tryz.underlying58 rfl (by decide) rfl (fun _ _ h=>by cases h;rfl) (fun h=>by cases h)
def ty83 : TyI:=⟨.struct [(0,81),(3,3)],4,56,[.int .i64 0,.string ⟨#[]⟩,.slice none 0 0,.int .i64 0],some ⟨_,(.st (.st (.int .i64) (.st .str (.sl (.st .str .str)))) (.int .i64))⟩,false⟩
theorem tyOk83 : TyOk Tryz.prog 83 ty83:=qW (by kernel_rfl) ⟨by kernel_rfl,by kernel_rfl,by kernel_rfl,by kernel_rfl,by kernel_rfl⟩ rfl (by decide) rfl (fun _ _ h=>by cases h;rfl) (fun h=>by cases h)
def ty24 : TyI:=⟨.ptr 79,1,8,[.pointer none],none,false⟩
theorem tyOk24 : TyOk Tryz.prog 24 ty24:=qW (by kernel_rfl) Tryz.underlying24 rfl (by decide) rfl (fun _ _ h=>by cases h) (fun h=>by cases h)
def ty137 : TyI:=⟨.slice 141,1,24,[.slice none 0 0],some ⟨_,(.sl (.st (.int .i64) (.st (.int .i64) (.st .str .bool))))⟩,false⟩
theorem tyOk137 : TyOk Tryz.prog 137 ty137:=qW (by kernel_rfl) Tryz.underlying137 rfl (by decide) rfl (fun _ _ h=>by cases h;rfl) (fun h=>by cases h)
def ty117 : TyI:=⟨.slice 5,1,24,[.slice none 0 0],some ⟨_,(.sl (.int .u8))⟩,false⟩
theorem tyOk117 : TyOk Tryz.prog 117 ty117:=qW (by kernel_rfl) Tryz.underlying117 rfl (by decide) rfl (fun _ _ h=>by cases h;rfl) (fun h=>by cases h)
def ty79 : TyI:=⟨.struct [(0,77),(1,3),(2,3)],3,40,[.slice none 0 0,.int .i64 0,.int .i64 0],some ⟨_,(.st (.sl (.st (.st (.int .i64) (.st .str (.sl (.st .str .str)))) (.int .i64))) (.st (.int .i64) (.int .i64)))⟩,false⟩
theorem tyOk79 : TyOk Tryz.prog 79 ty79:=qW (by kernel_rfl) ⟨by kernel_rfl,by kernel_rfl,by kernel_rfl,by kernel_rfl,by kernel_rfl⟩ rfl (by decide) rfl (fun _ _ h=>by cases h;rfl) (fun h=>by cases h)
def ty62 : TyI:=⟨.struct [(0,3),(1,53)],2,32,[.int .i64 0,.slice none 0 0],some ⟨_,(.st (.int .i64) (.sl (.st .str .str)))⟩,false⟩
theorem tyOk62 : TyOk Tryz.prog 62 ty62:=qW (by kernel_rfl) ⟨by kernel_rfl,by kernel_rfl,by kernel_rfl,by kernel_rfl,by kernel_rfl⟩ rfl (by decide) rfl (fun _ _ h=>by cases h;rfl) (fun h=>by cases h)
def ty205 : TyI:=⟨.int .u32,1,4,[.int .u32 0],some ⟨_,(.int .u32)⟩,true⟩
theorem tyOk205 : TyOk Tryz.prog 205 ty205:=qW (by kernel_rfl) Tryz.underlying205 rfl (by decide) rfl (fun _ _ h=>by cases h;rfl) (fun _=>by kernel_rfl)
def ty139 : TyI:=⟨.slice 3,1,24,[.slice none 0 0],some ⟨_,(.sl (.int .i64))⟩,false⟩
theorem tyOk139 : TyOk Tryz.prog 139 ty139:=qW (by kernel_rfl) Tryz.underlying139 rfl (by decide) rfl (fun _ _ h=>by cases h;rfl) (fun h=>by cases h)
def ty29 : TyI:=⟨.slice 87,1,24,[.slice none 0 0],some ⟨_,(.sl (.st (.st (.int .i64) (.st .str (.sl (.st .str .str)))) (.int .i64)))⟩,false⟩
theorem tyOk29 : TyOk Tryz.prog 29 ty29:=qW (by kernel_rfl) Tryz.underlying29 rfl (by decide) rfl (fun _ _ h=>by cases h;rfl) (fun h=>by cases h)
def ty125 : TyI:=⟨.ptr 129,1,8,[.pointer none],none,false⟩
theorem tyOk125 : TyOk Tryz.prog 125 ty125:=qW (by kernel_rfl) Tryz.underlying125 rfl (by decide) rfl (fun _ _ h=>by cases h) (fun h=>by cases h)
def ty55 : TyI:=⟨.struct [(0,3),(1,3),(2,53)],3,40,[.int .i64 0,.int .i64 0,.slice none 0 0],some ⟨_,(.st (.int .i64) (.st (.int .i64) (.sl (.st .str .str))))⟩,false⟩
theorem tyOk55 : TyOk Tryz.prog 55 ty55:=qW (by kernel_rfl) ⟨by kernel_rfl,by kernel_rfl,by kernel_rfl,by kernel_rfl,by kernel_rfl⟩ rfl (by decide) rfl (fun _ _ h=>by cases h;rfl) (fun h=>by cases h)
def ty127 : TyI:=⟨.struct [(0,22),(1,3),(2,4)],3,40,[.slice none 0 0,.int .i64 0,.bool false],some ⟨_,(.st (.sl .str) (.st (.int .i64) .bool))⟩,false⟩
theorem tyOk127 : TyOk Tryz.prog 127 ty127:=qW (by kernel_rfl) ⟨by kernel_rfl,by kernel_rfl,by kernel_rfl,by kernel_rfl,by kernel_rfl⟩ rfl (by decide) rfl (fun _ _ h=>by cases h;rfl) (fun h=>by cases h)
def ty116 : TyI:=⟨.ptr 119,1,8,[.pointer none],none,false⟩
theorem tyOk116 : TyOk Tryz.prog 116 ty116:=qW (by kernel_rfl) Tryz.underlying116 rfl (by decide) rfl (fun _ _ h=>by cases h) (fun h=>by cases h)
def ty211 : TyI:=⟨.struct [(0,5),(1,5)],2,2,[.int .u8 0,.int .u8 0],some ⟨_,(.st (.int .u8) (.int .u8))⟩,true⟩
theorem tyOk211 : TyOk Tryz.prog 211 ty211:=qW (by kernel_rfl) ⟨by kernel_rfl,by kernel_rfl,by kernel_rfl,by kernel_rfl,by kernel_rfl⟩ rfl (by decide) rfl (fun _ _ h=>by cases h;rfl) (fun _=>by kernel_rfl)
def ty99 : TyI:=⟨.struct [(0,3),(1,26)],2,24,[.int .i64 0,.nilIface],some ⟨_,(.st (.int .i64) .raw)⟩,false⟩
theorem tyOk99 : TyOk Tryz.prog 99 ty99:=qW (by kernel_rfl) ⟨by kernel_rfl,by kernel_rfl,by kernel_rfl,by kernel_rfl,by kernel_rfl⟩ rfl (by decide) rfl (fun _ _ h=>by cases h;rfl) (fun h=>by cases h)
def ty87 : TyI:=⟨.struct [(0,81),(3,3)],4,56,[.int .i64 0,.string ⟨#[]⟩,.slice none 0 0,.int .i64 0],some ⟨_,(.st (.st (.int .i64) (.st .str (.sl (.st .str .str)))) (.int .i64))⟩,false⟩
theorem tyOk87 : TyOk Tryz.prog 87 ty87:=qW (by kernel_rfl) ⟨by kernel_rfl,by kernel_rfl,by kernel_rfl,by kernel_rfl,by kernel_rfl⟩ rfl (by decide) rfl (fun _ _ h=>by cases h;rfl) (fun h=>by cases h)
def ty141 : TyI:=⟨.struct [(0,3),(1,3),(2,9),(3,4)],4,40,[.int .i64 0,.int .i64 0,.string ⟨#[]⟩,.bool false],some ⟨_,(.st (.int .i64) (.st (.int .i64) (.st .str .bool)))⟩,true⟩
theorem tyOk141 : TyOk Tryz.prog 141 ty141:=qW (by kernel_rfl) ⟨by kernel_rfl,by kernel_rfl,by kernel_rfl,by kernel_rfl,by kernel_rfl⟩ rfl (by decide) rfl (fun _ _ h=>by cases h;rfl) (fun _=>by kernel_rfl)
def ty96 : TyI:=⟨.ptr 99,1,8,[.pointer none],none,false⟩
theorem tyOk96 : TyOk Tryz.prog 96 ty96:=qW (by kernel_rfl) Tryz.underlying96 rfl (by decide) rfl (fun _ _ h=>by cases h) (fun h=>by cases h)
def ty194 : TyI:=⟨.ptr 189,1,8,[.pointer none],none,false⟩
theorem tyOk194 : TyOk Tryz.prog 194 ty194:=qW (by kernel_rfl) Tryz.underlying194 rfl (by decide) rfl (fun _ _ h=>by cases h) (fun h=>by cases h)
def ty91 : TyI:=⟨.other,1,8,[.nilFunc],none,false⟩
theorem tyOk91 : TyOk Tryz.prog 91 ty91:=qW (by kernel_rfl) ⟨_,Tryz.underlying91,trivial⟩ rfl (by decide) rfl (fun _ _ h=>by cases h) (fun h=>by cases h)
def ty147 : TyI:=⟨.other,1,8,[.nilFunc],none,false⟩
theorem tyOk147 : TyOk Tryz.prog 147 ty147:=qW (by kernel_rfl) ⟨_,Tryz.underlying147,trivial⟩ rfl (by decide) rfl (fun _ _ h=>by cases h) (fun h=>by cases h)
def ty92 : TyI:=⟨.other,1,8,[.nilFunc],none,false⟩
theorem tyOk92 : TyOk Tryz.prog 92 ty92:=qW (by kernel_rfl) ⟨_,Tryz.underlying92,trivial⟩ rfl (by decide) rfl (fun _ _ h=>by cases h) (fun h=>by cases h)
def ty149 : TyI:=⟨.other,1,8,[.nilFunc],none,false⟩
theorem tyOk149 : TyOk Tryz.prog 149 ty149:=qW (by kernel_rfl) ⟨_,Tryz.underlying149,trivial⟩ rfl (by decide) rfl (fun _ _ h=>by cases h) (fun h=>by cases h)
def ty153 : TyI:=⟨.other,1,8,[.nilFunc],none,false⟩
theorem tyOk153 : TyOk Tryz.prog 153 ty153:=qW (by kernel_rfl) ⟨_,Tryz.underlying153,trivial⟩ rfl (by decide) rfl (fun _ _ h=>by cases h) (fun h=>by cases h)
def ty160 : TyI:=⟨.ptr 5,1,8,[.pointer none],none,false⟩
theorem tyOk160 : TyOk Tryz.prog 160 ty160:=qW (by kernel_rfl) Tryz.underlying160 rfl (by decide) rfl (fun _ _ h=>by cases h) (fun h=>by cases h)
def te : List (TypeId × TyI):=[(3,ty3),(9,ty9),(22,ty22),(53,ty53),(5,ty5),(66,ty66),(77,ty77),(21,ty21),(26,ty26),(64,ty64),(4,ty4),(119,ty119),(81,ty81),(48,ty48),(129,ty129),(134,ty134),(31,ty31),(74,ty74),(45,ty45),(41,ty41),(58,ty58),(83,ty83),(24,ty24),(137,ty137),(117,ty117),(79,ty79),(62,ty62),(205,ty205),(139,ty139),(29,ty29),(125,ty125),(55,ty55),(127,ty127),(116,ty116),(211,ty211),(99,ty99),(87,ty87),(141,ty141),(96,ty96),(194,ty194),(91,ty91),(147,ty147),(92,ty92),(149,ty149),(153,ty153),(160,ty160)]
theorem teOk : TEok Tryz.prog te:=by
  intro p hp;simp only [te,List.mem_cons,List.not_mem_nil,or_false] at hp;rcases hp with rfl|rfl|rfl|rfl|rfl|rfl|rfl|rfl|rfl|rfl|rfl|rfl|rfl|rfl|rfl|rfl|rfl|rfl|rfl|rfl|rfl|rfl|rfl|rfl|rfl|rfl|rfl|rfl|rfl|rfl|rfl|rfl|rfl|rfl|rfl|rfl|rfl|rfl|rfl|rfl|rfl|rfl|rfl|rfl|rfl|rfl
  · exact tyOk3
  · exact tyOk9
  · exact tyOk22
  · exact tyOk53
  · exact tyOk5
  · exact tyOk66
  · exact tyOk77
  · exact tyOk21
  · exact tyOk26
  · exact tyOk64
  · exact tyOk4
  · exact tyOk119
  · exact tyOk81
  · exact tyOk48
  · exact tyOk129
  · exact tyOk134
  · exact tyOk31
  · exact tyOk74
  · exact tyOk45
  · exact tyOk41
  · exact tyOk58
  · exact tyOk83
  · exact tyOk24
  · exact tyOk137
  · exact tyOk117
  · exact tyOk79
  · exact tyOk62
  · exact tyOk205
  · exact tyOk139
  · exact tyOk29
  · exact tyOk125
  · exact tyOk55
  · exact tyOk127
  · exact tyOk116
  · exact tyOk211
  · exact tyOk99
  · exact tyOk87
  · exact tyOk141
  · exact tyOk96
  · exact tyOk194
  · exact tyOk91
  · exact tyOk147
  · exact tyOk92
  · exact tyOk149
  · exact tyOk153
  · exact tyOk160
end Ab
end Go.Proofs.YtehmiepjeffloaaGreatDoor
namespace Go.Proofs.YtehmiepjeffloaaGreatDoor
open Go.RowKit
namespace Bld
set_option maxRecDepth 100000
set_option maxHeartbeats 1000000
abbrev IsB (B b : Nat) (bs : List Value) (w : World) : Prop:=Lib.IsBuilder 119 5 B b bs w
theorem sizeBuilder : (Tryz.prog.info? 119).map (·.size) = some 2:=by kernel_rfl
theorem liesBuilder : liesAt Tryz.prog Tryz.prog.depth 119 (2 / Tryz.prog.cellsOf 119) 0 119 1 = true:=by kernel_rfl
theorem infoByte : (Tryz.prog.info? 5).map (fun i=>(i.zero,i.size,i.bytes)) = some (some (.int .u8 0),1,1):=by kernel_rfl
theorem copyCheck_used (b : Nat) (w : World) (h0 : w.cell? ⟨b,0,none⟩ = some (.pointer (some ⟨b,0,none⟩))) :
    Calls Tryz.prog 75 #[.pointer (some ⟨b,0,none⟩)] w fun e w'=>e = .returned (.tuple #[]) ∧ w' = w:=by
  obtain ⟨j,hj,_⟩:=Option.map_eq_some_iff.1 sizeBuilder
  go_enter Tryz.func75,Tryz.ntmps75
  go_wp2
  rw [Lib.run_neq_ptr_same w _ Tryz.underlying116 hj]
  go_wp2
  go_end0
  exact ⟨rfl,rfl⟩
theorem copyCheck_fresh (b : Nat) (w : World) (h0 : w.cell? ⟨b,0,none⟩ = some (.pointer none)) (hsh : w.shape? b = some (119,2)) (hfz : w.frozen? ⟨b,0,none⟩ = false) :
    Calls Tryz.prog 75 #[.pointer (some ⟨b,0,none⟩)] w fun e w'=>e = .returned (.tuple #[]) ∧ w' = w.setCell ⟨b,0,none⟩ (.pointer (some ⟨b,0,none⟩)):=by
  obtain ⟨j,hj,hjs⟩:=Option.map_eq_some_iff.1 sizeBuilder
  go_enter Tryz.func75,Tryz.ntmps75
  go_wp2
  rw [Lib.run_to_unsafe w ⟨b,0,none⟩ Tryz.underlying116 Tryz.underlying174 hj (by rw [hjs];decide) hsh (Nat.zero_lt_succ 1)];simp only [Result.andThen];rw [Oper.upon_value]
  go_wp2
  rw [run_callFunc_extern Tryz.func98 (by kernel_rfl) (by kernel_rfl) (by kernel_rfl) (e:=Extern.AbiNoEscape.same) (by kernel_rfl)];rw [Lib.run_noEscape];simp only [Result.andThen];rw [Oper.upon_value]
  go_wp2
  rw [Lib.run_from_unsafe w ⟨b,0,none⟩ Tryz.underlying174 Tryz.underlying116 hj hsh liesBuilder];simp only [Result.andThen];rw [Oper.upon_value]
  go_wp2
  go_end0
  exact ⟨rfl,rfl⟩
end Bld
end Go.Proofs.YtehmiepjeffloaaGreatDoor
namespace Go.Proofs.YtehmiepjeffloaaGreatDoor
open Go.RowKit
namespace Ab
abbrev bldO (u : Bool) (xs : List Int) : Obs:=[(0,.box 119 [.nself u 0,.vec 1]),(1,.vec 5 (.int .u8) xs)]
theorem setCell_grew {w : World} {b i : Nat} {v : Value} : Grew w (w.setCell ⟨b,i,none⟩ v) (some b) :=
  ⟨rfl,rfl,rfl,by simp [World.setCell],fun k _ hk=>by
    simp only [World.setCell,Array.getElem?_modify];rw [if_neg (fun e=>hk (by rw [e]))]⟩
theorem setCell_heap {w : World} {b i : Nat} {v : Value} {cs : Array Value} {T : TypeId} {fr : Nat × Nat} (h : w.heap[b]? = some (.cells cs T fr)) : (w.setCell ⟨b,i,none⟩ v).heap[b]? = some (.cells (cs.setIfInBounds i v) T fr):=by
  simp [World.setCell,Array.getElem?_modify,h]
theorem copyCheck_o (u : Bool) (xs : List Int) : yC Tryz.prog 75 [.one (.own 0 0)] (bldO u xs) 2 (.tup []) (bldO true xs) 2:=by
  refine ⟨⟨_,Tryz.func75,rfl,rfl⟩,fun cx ρ w vs hN hnx hw hs hvs=>?_⟩;obtain ⟨b,cs,hρ,hh,hcs⟩:=hs.obs (0,.box 119 [.nself u 0,.vec 1]) (by simp);obtain ⟨p,r,rfl,hp,v,r2,rfl,hv,hr⟩:=hcs;rw [show r2 = [] from hr] at hh;obtain ⟨q,r3,rfl,⟨b',hb1,hb2⟩,hr3⟩:=hvs;rw [hρ] at hb1;simp only [Option.some.injEq,Value.pointer.injEq,Addr.mk.injEq,and_true] at hb1;subst hb1;rw [show r3 = [] from hr3,hb2];have hh : w.heap[b]? = some (.cells #[p,v] 119 (0,0)):=hh;cases u with
  | true =>
    obtain ⟨b2,hb3,hb4⟩:=hp.1 rfl;rw [hρ] at hb3;simp only [Option.some.injEq,Value.pointer.injEq,Addr.mk.injEq,and_true] at hb3;subst hb3;refine (Bld.copyCheck_used b w (by simp [World.cell?,hh,hb4])).mono ?_
    rintro e w' ⟨rfl,rfl⟩
    exact ⟨_,ρ,rfl,hs,[],rfl,rfl⟩
  | false =>
    have hp : p = .pointer none:=hp.2 rfl;refine (Bld.copyCheck_fresh b w (by simp [World.cell?,hh,hp]) (by simp [World.shape?,hh]) (Lib.frozen_of_heap hh 0)).mono ?_
    rintro e w' ⟨rfl,rfl⟩
    refine ⟨_,ρ,rfl,?_,[],rfl,rfl⟩;have hg : getO (bldO false xs) 0 = some (.box 119 [.nself false 0,.vec 1]):=rfl;have hk : yO (okOf cx ρ (bldO false xs)) (okOf cx ρ (bldO false xs)) w (w.setCell ⟨b,0,none⟩ (.pointer (some ⟨b,0,none⟩))) :=
      fun _ k hk hlt=>⟨hk,setCell_grew.block k hlt (fun e=>hk.2 _ (qX hg) (by rw [hρ];exact e.symm))⟩
    have:=hs.write (o':=.box 119 [.nself true 0,.vec 1]) hg (w':=w.setCell ⟨b,0,none⟩ (.pointer (some ⟨b,0,none⟩))) (by rw [hρ];exact setCell_grew) (by simp [World.setCell]) ⟨b,[.pointer (some ⟨b,0,none⟩),v],hρ,setCell_heap hh,_,_,rfl,⟨fun _=>⟨b,hρ,rfl⟩,fun e=>by (cases e)⟩,_,_,rfl,C.kept (c:=.vec 1) hk hv,rfl⟩;exact this
set_option maxRecDepth 10000
theorem writeString_o (u : Bool) (xs : List Int) (t : ByteArray) (hl : xs.length + t.size ≤ 140737488355328) : yC Tryz.prog 47 [.one (.own 0 0),is t] (bldO u xs) 2
    (.tup [(false,[.lit (.int .i64 t.size)]),(false,[.lit .nilIface])]) (bldO true (xs ++ yX t)) 2:=by
  refine qZ (rs:=[4,5]) Tryz.func47 rfl rfl rfl teOk (by decide) rfl ?_;refine qC (qB ?_);refine qC (qB ?_);refine Or.inr (Or.inl (zei [] (zei [0,1] (zei _ (zei _ (zei _ (zei _ (zei _ (zai (copyCheck_o u xs) (zai rfl (zai (zai (zai rfl rfl) (zai (zai rfl rfl) True.intro)) (zai rfl ?_))))))))))));refine qC (qB ?_);refine zai hl ?_;refine qC (qB ?_);refine qL ?_;exact ⟨rfl,⟨rfl,rfl⟩,rfl⟩
end Ab
end Go.Proofs.YtehmiepjeffloaaGreatDoor
namespace Go.Proofs.YtehmiepjeffloaaGreatDoor
open Go.RowKit
namespace Ab
theorem grew_freeze {w w' : World} {g n : Nat} (h : Grew w w' (some g)) : Grew w (w'.freeze ⟨g,0,none⟩ n) (some g):=by
  unfold World.freeze;split
  · exact h
  · exact ⟨h.os,h.tape,h.output,by simpa using h.size,fun k hk hg=>by
      simp only [Array.getElem?_modify];rw [if_neg (fun e=>hg (by rw [e]))];exact h.block k hk hg⟩
theorem grew_drew {w : World} {r : Option Nat} : Grew w w.drew r:=⟨rfl,rfl,rfl,Nat.le_refl _,fun _ _ _=>rfl⟩
theorem grew_alloc {w : World} {o : Obj} {r : Option Nat} : Grew w (w.drew.alloc o) r:=⟨rfl,rfl,rfl,by simp,fun k hk _=>Lib.alloc_old w.drew _ k hk⟩
set_option maxRecDepth 100000
set_option maxHeartbeats 2000000
theorem string_some (b g cap : Nat) (cur : Array Value) (p : Value) (l : List UInt8) (w : World) (h0 : l ≠ []) (hbk : w.heap[b]? = some (.cells #[p,.slice (some ⟨g,0,none⟩) l.length cap] 119 (0,0)))
    (hg : w.heap[g]? = some (.cells cur 5 (0,0))) (hnc : l.length ≤ cap) (hcm : cap ≤ maxLen) (hcs : cur.size = cap * 1) (hown : w.ownsRow 0 5 1 (.slice (some ⟨g,0,none⟩) l.length cap) l.length (Lib.byteCells l)) :
    Calls Tryz.prog 49 #[.pointer (some ⟨b,0,none⟩)] w fun e w'=>e = .returned (.string ⟨l.toArray⟩) ∧ Grew w w' (some g):=by
  have hl0 : l.length ≠ 0:=by simpa using h0
  have c1 : w.drew.cell? ⟨b,1,none⟩ = some (.slice (some ⟨g,0,none⟩) l.length cap):=by
    have : w.drew.heap[b]? = some (.cells #[p,.slice (some ⟨g,0,none⟩) l.length cap] 119 (0,0)):=hbk;rw [Lib.cell_of_heap this];rfl
  have hSD : (Builtin.unsafeSliceData_ #[117] 160 #[.slice (some ⟨g,0,none⟩) l.length cap]).run Tryz.prog w.drew = .ok (.pointer (some ⟨g,0,none⟩)) w.drew :=
    Lib.run_unsafeSliceData_row _ _ _ _ _ _ (by omega)
  have hUS : (Builtin.unsafeString_ #[160,3] 9 #[.pointer (some ⟨g,0,none⟩),.int .i64 l.length]).run Tryz.prog w.drew = .ok (.string ⟨l.toArray⟩) (w.drew.freeze ⟨g,0,none⟩ l.length):=by
    refine Lib.run_unsafeString_row w.drew 160 3 9 5 Tryz.underlying160 (by kernel_rfl) g cur.size (by have hg' : w.drew.heap[g]? = some (.cells cur 5 (0,0)):=hg;simp [World.shape?,hg']) l h0 (by omega) (by unfold maxLen at hcm;omega) ?_;intro j x hx;have:=hown.cells (g:=g) rfl j (.int .u8 x.toNat) (by simp [Lib.byteCells,hx]);exact this
  have mixed : Tryz.prog.follows .mixedOrders = true:=by kernel_rfl
  go_enter Tryz.func49,Tryz.ntmps49
  go_wp2
  go_region_o
  all_goals (go_wp2;go_ret;exact ⟨rfl,grew_freeze grew_drew⟩)
theorem string_nil (b : Nat) (p : Value) (w : World) (hbk : w.heap[b]? = some (.cells #[p,.slice none 0 0] 119 (0,0))) :
    Calls Tryz.prog 49 #[.pointer (some ⟨b,0,none⟩)] w fun e w'=>e = .returned (.string ⟨#[]⟩) ∧ Grew w w' none:=by
  have hUS : ∀ (W : World) (q : Option Addr),(Builtin.unsafeString_ #[160,3] 9 #[.pointer q,.int .i64 0]).run Tryz.prog W = .ok (.string .empty) W:=fun W q=>Lib.run_unsafeString_none W _ _ _ q
  have c1 : w.drew.cell? ⟨b,1,none⟩ = some (.slice none 0 0):=by
    have : w.drew.heap[b]? = some (.cells #[p,.slice none 0 0] 119 (0,0)):=hbk;rw [Lib.cell_of_heap this];rfl
  have hSD : (Builtin.unsafeSliceData_ #[117] 160 #[.slice none 0 0]).run Tryz.prog w.drew = .ok (.pointer none) w.drew:=rfl;have mixed : Tryz.prog.follows .mixedOrders = true:=by kernel_rfl
  go_enter Tryz.func49,Tryz.ntmps49
  go_wp2
  go_region_o
  all_goals (go_wp2;go_ret;exact ⟨rfl,grew_drew⟩)
theorem string_noroom (b g : Nat) (p : Value) (cur : Array Value) (w : World) (hbk : w.heap[b]? = some (.cells #[p,.slice (some ⟨g,0,none⟩) 0 0] 119 (0,0))) (hg : w.heap[g]? = some (.cells cur 5 (0,0))) :
    Calls Tryz.prog 49 #[.pointer (some ⟨b,0,none⟩)] w fun e w'=>e = .returned (.string ⟨#[]⟩) ∧ Grew w w' (some g):=by
  have hUS : ∀ (W : World) (q : Option Addr),(Builtin.unsafeString_ #[160,3] 9 #[.pointer q,.int .i64 0]).run Tryz.prog W = .ok (.string .empty) W:=fun W q=>Lib.run_unsafeString_none W _ _ _ q
  have hlt : b < w.heap.size:=(Array.getElem?_eq_some_iff.1 hbk).1;have c1 : w.drew.cell? ⟨b,1,none⟩ = some (.slice (some ⟨g,0,none⟩) 0 0):=by
    have : w.drew.heap[b]? = some (.cells #[p,.slice (some ⟨g,0,none⟩) 0 0] 119 (0,0)):=hbk;rw [Lib.cell_of_heap this];rfl
  have hSD : (Builtin.unsafeSliceData_ #[117] 160 #[.slice (some ⟨g,0,none⟩) 0 0]).run Tryz.prog w.drew = .ok (.pointer (some ⟨w.drew.heap.size,0,none⟩)) (w.drew.alloc (.view ⟨g,0,none⟩ 5)) :=
    Lib.run_unsafeSliceData_zero w.drew _ _ 5 Tryz.underlying160 ⟨g,0,none⟩ 0 (5,cur.size) (by have hg' : w.drew.heap[g]? = some (.cells cur 5 (0,0)):=hg;simp [World.shape?,hg'])
  have c2 : (w.drew.alloc (.view ⟨g,0,none⟩ 5)).cell? ⟨b,1,none⟩ = some (.slice (some ⟨g,0,none⟩) 0 0):=by
    have : (w.drew.alloc (.view ⟨g,0,none⟩ 5)).heap[b]? = _:=(Lib.alloc_old w.drew _ b hlt).trans hbk;rw [Lib.cell_of_heap this];rfl
  have c3 : (w.alloc (.view ⟨g,0,none⟩ 5)).drew.cell? ⟨b,1,none⟩ = some (.slice (some ⟨g,0,none⟩) 0 0):=c2;have c0 : w.cell? ⟨b,1,none⟩ = some (.slice (some ⟨g,0,none⟩) 0 0):=c1;have mixed : Tryz.prog.follows .mixedOrders = true:=by kernel_rfl
  go_enter Tryz.func49,Tryz.ntmps49
  go_wp2
  go_region_o
  all_goals (go_wp2;go_ret;exact ⟨rfl,grew_alloc⟩)
theorem string_room (b g cap : Nat) (p : Value) (w : World) (hc0 : cap ≠ 0) (hbk : w.heap[b]? = some (.cells #[p,.slice (some ⟨g,0,none⟩) 0 cap] 119 (0,0))) :
    Calls Tryz.prog 49 #[.pointer (some ⟨b,0,none⟩)] w fun e w'=>e = .returned (.string ⟨#[]⟩) ∧ Grew w w' (some g):=by
  have hUS : ∀ (W : World) (q : Option Addr),(Builtin.unsafeString_ #[160,3] 9 #[.pointer q,.int .i64 0]).run Tryz.prog W = .ok (.string .empty) W:=fun W q=>Lib.run_unsafeString_none W _ _ _ q
  have c1 : w.drew.cell? ⟨b,1,none⟩ = some (.slice (some ⟨g,0,none⟩) 0 cap):=by
    have : w.drew.heap[b]? = some (.cells #[p,.slice (some ⟨g,0,none⟩) 0 cap] 119 (0,0)):=hbk;rw [Lib.cell_of_heap this];rfl
  have hSD : (Builtin.unsafeSliceData_ #[117] 160 #[.slice (some ⟨g,0,none⟩) 0 cap]).run Tryz.prog w.drew = .ok (.pointer (some ⟨g,0,none⟩)) w.drew :=
    Lib.run_unsafeSliceData_row _ _ _ _ _ _ hc0
  clear hc0;have mixed : Tryz.prog.follows .mixedOrders = true:=by kernel_rfl
  go_enter Tryz.func49,Tryz.ntmps49
  go_wp2
  go_region_o
  all_goals (go_wp2;go_ret;exact ⟨rfl,grew_drew⟩)
end Ab
end Go.Proofs.YtehmiepjeffloaaGreatDoor
namespace Go.Proofs.YtehmiepjeffloaaGreatDoor
open Go.RowKit
namespace Ab
theorem string_calls (b : Nat) (p v : Value) (s : ByteArray) (w : World) (hbk : w.heap[b]? = some (.cells #[p,v] 119 (0,0))) (hown : w.ownsRow 0 5 1 v s.size (Lib.strCells s)) :
    Calls Tryz.prog 49 #[.pointer (some ⟨b,0,none⟩)] w fun e w'=>e = .returned (.string s) ∧ Grew w w' (blk (some v)):=by
  have hs : s = ⟨s.data.toList.toArray⟩:=by cases s;simp
  have hsz : s.size = s.data.toList.length:=by cases s;rfl
  rcases hown.2 with ⟨rfl,hz⟩|⟨g,cap,cur,rfl,_,hg,hnc,hcm,hcs,htake⟩
  · have hl : s.data.toList = []:=List.eq_nil_of_length_eq_zero (by rw [← hsz];exact hz);rw [hl] at hs;refine (string_nil b p w hbk).mono ?_
    rintro e w' ⟨rfl,h⟩
    exact ⟨by rw [hs],h⟩
  · by_cases h0 : s.size = 0
    · have hl : s.data.toList = []:=List.eq_nil_of_length_eq_zero (by rw [← hsz];exact h0);rw [hl] at hs;rw [h0] at hbk
      by_cases hc : cap = 0
      · subst hc;refine (string_noroom b g p cur w hbk hg).mono ?_
        rintro e w' ⟨rfl,h⟩
        exact ⟨by rw [hs],h⟩
      · refine (string_room b g cap p w hc hbk).mono ?_
        rintro e w' ⟨rfl,h⟩
        exact ⟨by rw [hs],h⟩
    · rw [hsz] at hbk hnc hown;refine (string_some b g cap cur p s.data.toList w (fun e=>h0 (by rw [hsz,e];rfl)) hbk hg hnc hcm hcs hown).mono ?_
      rintro e w' ⟨rfl,h⟩
      exact ⟨by rw [← hs],h⟩
theorem string_o (u : Bool) (s : ByteArray) : yC Tryz.prog 49 [.one (.own 0 0)] (bldO u (yX s)) 2 (is s) [] 2:=by
  refine ⟨⟨_,Tryz.func49,rfl,rfl⟩,fun cx ρ w vs hN hnx hw hs hvs=>?_⟩;obtain ⟨b,cs,hρ,hh,hcs⟩:=hs.obs (0,.box 119 [.nself u 0,.vec 1]) (by simp);obtain ⟨p,r,rfl,hp,v,r2,rfl,hv,hr⟩:=hcs;rw [show r2 = [] from hr] at hh;obtain ⟨q,r3,rfl,⟨b',hb1,hb2⟩,hr3⟩:=hvs;rw [hρ] at hb1;simp only [Option.some.injEq,Value.pointer.injEq,Addr.mk.injEq,and_true] at hb1;subst hb1;rw [show r3 = [] from hr3,hb2];have hh : w.heap[b]? = some (.cells #[p,v] 119 (0,0)):=hh;obtain ⟨v',hv',css,h1,h2,h3⟩:=hs.obs (1,.vec 5 (.int .u8) (yX s)) (by simp);have hv1 : ρ 1 = some v:=hv.1;rw [show ρ 1 = some v' from hv'] at hv1;obtain rfl:=Option.some.inj hv1;have hc : css = (yX s).map fun n=>[Value.int .u8 n]:=by
    apply List.ext_getElem
    · simp [h1]
    · intro i hi hi';have hlt : i < (yX s).length:=by rw [← h1];exact hi
      have h4 : css.getD i [] = [.int .u8 (yX s)[i]]:=h2 i hlt;simp only [List.getD,List.getElem?_eq_getElem hi,Option.getD_some] at h4;rw [h4,List.getElem_map]
  have hown : w.ownsRow 0 5 1 v' s.size (Lib.strCells s):=by
    rw [← flat_ints,← hc,← intsOf_length];exact h3
  refine (string_calls b p v' s w hh hown).mono ?_
  rintro e w' ⟨rfl,hg⟩
  refine ⟨_,ρ,rfl,⟨hs.size,DefOk.none hN.2.2,fun _=>trivial,fun p hp=>by (cases hp),List.nodup_nil,fun p hp=>by (cases hp),hs.names,hs.nx0,fun p hp=>by (cases hp),fun p hp=>by (cases hp),?_,hs.disj,hs.pin,hs.glob,hs.bags⟩,rfl⟩;refine ⟨by rw [hw];exact hg.os,by rw [hw];exact hg.tape,by rw [hw];exact hg.output,by rw [hw];exact hg.size,fun k hk hno=>?_,fun k hbg=>by rw [hw];exact .rfl' (hg.block k (by have:=(hs.bags k hbg).1;rw [hw] at this;exact this) fun e=>hs.bag_own hbg (p:=(1,.vec 5 (.int .u8) (yX s))) (by simp) (by rw [show ρ 1 = some v' from hv'];exact e.symm))⟩;rw [hw] at hk ⊢;refine fun _=>hg.block k hk fun e=>?_
  rcases (hs.low (1,.vec 5 (.int .u8) (yX s)) (by simp) k (by rw [show ρ 1 = some v' from hv'];exact e.symm)).2 with h4|h4
  · rw [hw] at h4;omega
  · exact hno h4
end Ab
end Go.Proofs.YtehmiepjeffloaaGreatDoor
namespace Go.Proofs
open Go.Shelf
def Tryz.lays169_ren : Go.Shelf.Ren:=⟨fun|169=>49|n=>n,fun|70=>116|9=>9|0=>0|72=>119|37=>117|127=>160|3=>3|5=>5|n=>n,fun|n=>n⟩
theorem Tryz.lays169 : Go.Proofs.Lays.n169 Tryz.prog Tryz.lays169_ren:={
  mixed:=by kernel_rfl
  f169:=Tryz.func49.trans (congrArg some (by kernel_rfl))
  t0:=Tryz.underlying0
  a0:=Tryz.isAgg0
  z0:=Tryz.sizeOf0
  v0:=Tryz.zeroValue0
  t3:=Tryz.underlying3
  a3:=Tryz.isAgg3
  z3:=Tryz.sizeOf3
  v3:=Tryz.zeroValue3
  t9:=Tryz.underlying9
  a9:=Tryz.isAgg9
  z9:=Tryz.sizeOf9
  v9:=Tryz.zeroValue9
  t37:=Tryz.underlying117
  a37:=Tryz.isAgg117
  z37:=Tryz.sizeOf117
  v37:=Tryz.zeroValue117
  t70:=Tryz.underlying116
  a70:=Tryz.isAgg116
  z70:=Tryz.sizeOf116
  v70:=Tryz.zeroValue116
  t72:=Tryz.underlying119
  a72:=Tryz.isAgg119
  z72:=Tryz.sizeOf119
  v72:=Tryz.zeroValue119
  t127:=Tryz.underlying160
  a127:=Tryz.isAgg160
  z127:=Tryz.sizeOf160
  v127:=Tryz.zeroValue160 }
theorem Tryz.Builder_Extra_169 : Builder.Extra Tryz.prog Tryz.lays169_ren:={
  sizeBuilder:=by kernel_rfl
  liesBuilder:=by kernel_rfl
  t5:=Tryz.underlying5
  a5:=Tryz.isAgg5
  z5:=Tryz.sizeOf5
  v5:=Tryz.zeroValue5
  infoByte:=by kernel_rfl
  cellsByte:=by kernel_rfl
  sizeByte:=by kernel_rfl
  neB5:=by decide }
open Go.RowKit in
theorem Tryz.Builder_String (B b : Nat) (l : List UInt8) (w : World) (h : Lib.IsBuilder 119 5 B b (Lib.byteCells l) w) (h0 : l ≠ []) :
    Calls Tryz.prog 49 #[.pointer (some ⟨b,0,none⟩)] w fun e w'=>e = .returned (.string ⟨l.toArray⟩) ∧ Below B w w':=Any.Builder_String Tryz.lays169 Tryz.Builder_Extra_169 B b l w h h0
open Go.RowKit in
theorem Tryz.Builder_String_empty (B b : Nat) (w : World) (h : Lib.IsBuilder 119 5 B b [] w) (hBw : B ≤ w.heap.size) :
    Calls Tryz.prog 49 #[.pointer (some ⟨b,0,none⟩)] w fun e w'=>e = .returned (.string ⟨#[]⟩) ∧ Below B w w':=Any.Builder_String_empty Tryz.lays169 Tryz.Builder_Extra_169 B b w h hBw
open Go.RowKit in
theorem Tryz.Builder_String_any (B b : Nat) (l : List UInt8) (w : World) (h : Lib.IsBuilder 119 5 B b (Lib.byteCells l) w) (hBw : B ≤ w.heap.size) :
    Calls Tryz.prog 49 #[.pointer (some ⟨b,0,none⟩)] w fun e w'=>e = .returned (.string ⟨l.toArray⟩) ∧ Below B w w':=Any.Builder_String_any Tryz.lays169 Tryz.Builder_Extra_169 B b l w h hBw
def Tryz.lays241_ren : Go.Shelf.Ren:=⟨fun|241=>113|277=>130|n=>n,fun|70=>116|3=>3|0=>0|72=>119|37=>117|5=>5|n=>n,fun|n=>n⟩
theorem Tryz.lays241 : Go.Proofs.Lays.n241 Tryz.prog Tryz.lays241_ren:={
  mixed:=by kernel_rfl
  f241:=Tryz.func113.trans (congrArg some (by kernel_rfl))
  f277:=Tryz.func130.trans (congrArg some (by kernel_rfl))
  t0:=Tryz.underlying0
  a0:=Tryz.isAgg0
  z0:=Tryz.sizeOf0
  v0:=Tryz.zeroValue0
  t3:=Tryz.underlying3
  a3:=Tryz.isAgg3
  z3:=Tryz.sizeOf3
  v3:=Tryz.zeroValue3
  t37:=Tryz.underlying117
  a37:=Tryz.isAgg117
  z37:=Tryz.sizeOf117
  v37:=Tryz.zeroValue117
  t70:=Tryz.underlying116
  a70:=Tryz.isAgg116
  z70:=Tryz.sizeOf116
  v70:=Tryz.zeroValue116
  t72:=Tryz.underlying119
  a72:=Tryz.isAgg119
  z72:=Tryz.sizeOf119
  v72:=Tryz.zeroValue119 }
theorem Tryz.Builder_Extra_241 : Builder.Extra Tryz.prog Tryz.lays241_ren:={
  sizeBuilder:=by kernel_rfl
  liesBuilder:=by kernel_rfl
  t5:=Tryz.underlying5
  a5:=Tryz.isAgg5
  z5:=Tryz.sizeOf5
  v5:=Tryz.zeroValue5
  infoByte:=by kernel_rfl
  cellsByte:=by kernel_rfl
  sizeByte:=by kernel_rfl
  neB5:=by decide }
open Go.RowKit in
theorem Tryz.Builder_grow_fresh (B b n : Nat) (w : World) (hB : B ≤ b) (hbk : w.heap[b]? = some (.cells #[.pointer (some ⟨b,0,none⟩),.slice none 0 0] 119 (0,0))) (hBw : B ≤ w.heap.size) (hn : n ≤ 281474976710656) :
    Calls Tryz.prog 113 #[.pointer (some ⟨b,0,none⟩),.int .i64 n] w fun e w'=>e = .returned (.tuple #[]) ∧ (Lib.BuilderAt 119 5 B b (.pointer (some ⟨b,0,none⟩)) [] w' ∧ Below B w w'):=Any.Builder_grow_fresh Tryz.lays241 Tryz.Builder_Extra_241 B b n w hB hbk hBw hn
def Tryz.lays165_ren : Go.Shelf.Ren:=⟨fun|165=>101|240=>75|241=>113|276=>98|277=>130|n=>n,fun|70=>116|3=>3|0=>0|4=>4|9=>9|20=>20|72=>119|37=>117|164=>174|5=>5|n=>n,fun|n=>n⟩
theorem Tryz.lays165 : Go.Proofs.Lays.n165 Tryz.prog Tryz.lays165_ren:={
  mixed:=by kernel_rfl
  f165:=Tryz.func101.trans (congrArg some (by kernel_rfl))
  f240:=Tryz.func75.trans (congrArg some (by kernel_rfl))
  f241:=Tryz.func113.trans (congrArg some (by kernel_rfl))
  f276:=Tryz.func98.trans (congrArg some (by kernel_rfl))
  f277:=Tryz.func130.trans (congrArg some (by kernel_rfl))
  t0:=Tryz.underlying0
  a0:=Tryz.isAgg0
  z0:=Tryz.sizeOf0
  v0:=Tryz.zeroValue0
  t3:=Tryz.underlying3
  a3:=Tryz.isAgg3
  z3:=Tryz.sizeOf3
  v3:=Tryz.zeroValue3
  t4:=Tryz.underlying4
  a4:=Tryz.isAgg4
  z4:=Tryz.sizeOf4
  v4:=Tryz.zeroValue4
  t9:=Tryz.underlying9
  a9:=Tryz.isAgg9
  z9:=Tryz.sizeOf9
  v9:=Tryz.zeroValue9
  t20:=Tryz.underlying20
  a20:=Tryz.isAgg20
  z20:=Tryz.sizeOf20
  v20:=Tryz.zeroValue20
  t37:=Tryz.underlying117
  a37:=Tryz.isAgg117
  z37:=Tryz.sizeOf117
  v37:=Tryz.zeroValue117
  t70:=Tryz.underlying116
  a70:=Tryz.isAgg116
  z70:=Tryz.sizeOf116
  v70:=Tryz.zeroValue116
  t72:=Tryz.underlying119
  a72:=Tryz.isAgg119
  z72:=Tryz.sizeOf119
  v72:=Tryz.zeroValue119
  t164:=Tryz.underlying174
  a164:=Tryz.isAgg174
  z164:=Tryz.sizeOf174
  v164:=Tryz.zeroValue174 }
theorem Tryz.Builder_Extra_165 : Builder.Extra Tryz.prog Tryz.lays165_ren:={
  sizeBuilder:=by kernel_rfl
  liesBuilder:=by kernel_rfl
  t5:=Tryz.underlying5
  a5:=Tryz.isAgg5
  z5:=Tryz.sizeOf5
  v5:=Tryz.zeroValue5
  infoByte:=by kernel_rfl
  cellsByte:=by kernel_rfl
  sizeByte:=by kernel_rfl
  neB5:=by decide }
open Go.RowKit in
theorem Tryz.Builder_Grow_fresh (B b n : Nat) (w : World) (hB : B ≤ b) (hbk : w.heap[b]? = some (.cells #[.pointer none,.slice none 0 0] 119 (0,0))) (hBw : B ≤ w.heap.size) (hn : n ≤ 281474976710656) :
    Calls Tryz.prog 101 #[.pointer (some ⟨b,0,none⟩),.int .i64 n] w fun e w'=>e = .returned (.tuple #[]) ∧ (Lib.BuilderAt 119 5 B b (.pointer (some ⟨b,0,none⟩)) [] w' ∧ Below B w w'):=Any.Builder_Grow_fresh Tryz.lays165 Tryz.Builder_Extra_165 B b n w hB hbk hBw hn
def Tryz.lays156_ren : Go.Shelf.Ren:=⟨fun|156=>78|165=>101|166=>47|169=>49|240=>75|241=>113|276=>98|277=>130|n=>n,fun|31=>22|9=>9|3=>3|4=>4|0=>0|20=>20|72=>119|76=>56|70=>116|37=>117|75=>26|127=>160|164=>174|5=>5|80=>122|n=>n,fun|n=>n⟩
theorem Tryz.lays156 : Go.Proofs.Lays.n156 Tryz.prog Tryz.lays156_ren:={
  mixed:=by kernel_rfl
  f156:=Tryz.func78.trans (congrArg some (by kernel_rfl))
  f165:=Tryz.func101.trans (congrArg some (by kernel_rfl))
  f166:=Tryz.func47.trans (congrArg some (by kernel_rfl))
  f169:=Tryz.func49.trans (congrArg some (by kernel_rfl))
  f240:=Tryz.func75.trans (congrArg some (by kernel_rfl))
  f241:=Tryz.func113.trans (congrArg some (by kernel_rfl))
  f276:=Tryz.func98.trans (congrArg some (by kernel_rfl))
  f277:=Tryz.func130.trans (congrArg some (by kernel_rfl))
  t0:=Tryz.underlying0
  a0:=Tryz.isAgg0
  z0:=Tryz.sizeOf0
  v0:=Tryz.zeroValue0
  t3:=Tryz.underlying3
  a3:=Tryz.isAgg3
  z3:=Tryz.sizeOf3
  v3:=Tryz.zeroValue3
  t4:=Tryz.underlying4
  a4:=Tryz.isAgg4
  z4:=Tryz.sizeOf4
  v4:=Tryz.zeroValue4
  t9:=Tryz.underlying9
  a9:=Tryz.isAgg9
  z9:=Tryz.sizeOf9
  v9:=Tryz.zeroValue9
  t20:=Tryz.underlying20
  a20:=Tryz.isAgg20
  z20:=Tryz.sizeOf20
  v20:=Tryz.zeroValue20
  t31:=Tryz.underlying22
  a31:=Tryz.isAgg22
  z31:=Tryz.sizeOf22
  v31:=Tryz.zeroValue22
  t37:=Tryz.underlying117
  a37:=Tryz.isAgg117
  z37:=Tryz.sizeOf117
  v37:=Tryz.zeroValue117
  t70:=Tryz.underlying116
  a70:=Tryz.isAgg116
  z70:=Tryz.sizeOf116
  v70:=Tryz.zeroValue116
  t72:=Tryz.underlying119
  a72:=Tryz.isAgg119
  z72:=Tryz.sizeOf119
  v72:=Tryz.zeroValue119
  t75:=Tryz.underlying26
  a75:=Tryz.isAgg26
  z75:=Tryz.sizeOf26
  v75:=Tryz.zeroValue26
  t76:=Tryz.underlying56
  a76:=Tryz.isAgg56
  z76:=Tryz.sizeOf56
  v76:=Tryz.zeroValue56
  t127:=Tryz.underlying160
  a127:=Tryz.isAgg160
  z127:=Tryz.sizeOf160
  v127:=Tryz.zeroValue160
  t164:=Tryz.underlying174
  a164:=Tryz.isAgg174
  z164:=Tryz.sizeOf174
  v164:=Tryz.zeroValue174 }
theorem Tryz.Builder_Extra_156 : Builder.Extra Tryz.prog Tryz.lays156_ren:={
  sizeBuilder:=by kernel_rfl
  liesBuilder:=by kernel_rfl
  t5:=Tryz.underlying5
  a5:=Tryz.isAgg5
  z5:=Tryz.sizeOf5
  v5:=Tryz.zeroValue5
  infoByte:=by kernel_rfl
  cellsByte:=by kernel_rfl
  sizeByte:=by kernel_rfl
  neB5:=by decide }
open Go.RowKit in
theorem Tryz.strings_Join_none (a : Option Addr) (c : Nat) (sep : ByteArray) (w : World) :
    Calls Tryz.prog 78 #[.slice a 0 c,.string sep] w fun e w'=>e = .returned (.string ⟨#[]⟩) ∧ w' = w:=Any.strings_Join_none Tryz.lays156 Tryz.Builder_Extra_156 a c sep w
open Go.RowKit in
theorem Tryz.strings_Join (bk o c : Nat) (xs : List ByteArray) (sep : ByteArray) (w : World) (hcells : ∀ (j : Nat) x,xs[j]? = some x → w.cell? ⟨bk,o + j,none⟩ = some (.string x)) (hbk : bk < w.heap.size) (hN : xs.length ≤ 140737488355328) (hcap : xs.length ≤ c) (hlen : (Lib.join (xs.map (·.data.toList)) sep.data.toList).length ≤ 140737488355328) :
    Calls Tryz.prog 78 #[.slice (some ⟨bk,o,none⟩) xs.length c,.string sep] w fun e w'=>e = .returned (.string ⟨(Lib.join (xs.map (·.data.toList)) sep.data.toList).toArray⟩) ∧ Below w.heap.size w w':=Any.strings_Join Tryz.lays156 Tryz.Builder_Extra_156 bk o c xs sep w hcells hbk hN hcap hlen
def Tryz.lays231_ren : Go.Shelf.Ren:=⟨fun|231=>119|n=>n,fun|9=>9|5=>5|3=>3|4=>4|n=>n,fun|n=>n⟩
theorem Tryz.lays231 : Go.Proofs.Lays.n231 Tryz.prog Tryz.lays231_ren:={
  mixed:=by kernel_rfl
  f231:=Tryz.func119.trans (congrArg some (by kernel_rfl))
  t3:=Tryz.underlying3
  a3:=Tryz.isAgg3
  z3:=Tryz.sizeOf3
  v3:=Tryz.zeroValue3
  t4:=Tryz.underlying4
  a4:=Tryz.isAgg4
  z4:=Tryz.sizeOf4
  v4:=Tryz.zeroValue4
  t5:=Tryz.underlying5
  a5:=Tryz.isAgg5
  z5:=Tryz.sizeOf5
  v5:=Tryz.zeroValue5
  t9:=Tryz.underlying9
  a9:=Tryz.isAgg9
  z9:=Tryz.sizeOf9
  v9:=Tryz.zeroValue9 }
open Go.RowKit in
theorem Tryz.strings_trimLeftByte (s : ByteArray) (c : UInt8) (w : World) :
    Calls Tryz.prog 119 #[.string s,.int .u8 c.toNat] w fun e w'=>e = .returned (.string ⟨(Lib.trimLeftB s.data.toList c).toArray⟩) ∧ w' = w:=Any.strings_trimLeftByte Tryz.lays231 s c w
def Tryz.lays232_ren : Go.Shelf.Ren:=⟨fun|232=>120|n=>n,fun|9=>9|5=>5|3=>3|4=>4|n=>n,fun|n=>n⟩
theorem Tryz.lays232 : Go.Proofs.Lays.n232 Tryz.prog Tryz.lays232_ren:={
  mixed:=by kernel_rfl
  f232:=Tryz.func120.trans (congrArg some (by kernel_rfl))
  t3:=Tryz.underlying3
  a3:=Tryz.isAgg3
  z3:=Tryz.sizeOf3
  v3:=Tryz.zeroValue3
  t4:=Tryz.underlying4
  a4:=Tryz.isAgg4
  z4:=Tryz.sizeOf4
  v4:=Tryz.zeroValue4
  t5:=Tryz.underlying5
  a5:=Tryz.isAgg5
  z5:=Tryz.sizeOf5
  v5:=Tryz.zeroValue5
  t9:=Tryz.underlying9
  a9:=Tryz.isAgg9
  z9:=Tryz.sizeOf9
  v9:=Tryz.zeroValue9 }
open Go.RowKit in
theorem Tryz.strings_trimRightByte (s : ByteArray) (c : UInt8) (w : World) (hs : s.size ≤ 9223372036854775807) :
    Calls Tryz.prog 120 #[.string s,.int .u8 c.toNat] w fun e w'=>e = .returned (.string ⟨(Lib.trimRightB s.data.toList c).toArray⟩) ∧ w' = w:=Any.strings_trimRightByte Tryz.lays232 s c w hs
def Tryz.lays160_ren : Go.Shelf.Ren:=⟨fun|160=>105|232=>120|231=>119|227=>116|234=>122|233=>121|236=>124|235=>123|228=>117|271=>139|151=>138|197=>137|120=>146|152=>114|260=>145|137=>131|119=>132|224=>133|225=>134|217=>135|266=>143|n=>n,fun|9=>9|4=>4|3=>3|5=>5|117=>190|116=>189|0=>0|124=>194|21=>21|105=>201|46=>200|119=>209|139=>212|138=>211|n=>n,fun|3=>1|4=>2|n=>n⟩
theorem Tryz.lays160 : Go.Proofs.Lays.n160 Tryz.prog Tryz.lays160_ren:={
  mixed:=by kernel_rfl
  f119:=Tryz.func132.trans (congrArg some (by kernel_rfl))
  f120:=Tryz.func146.trans (congrArg some (by kernel_rfl))
  f137:=Tryz.func131.trans (congrArg some (by kernel_rfl))
  f151:=Tryz.func138.trans (congrArg some (by kernel_rfl))
  f152:=Tryz.func114.trans (congrArg some (by kernel_rfl))
  f160:=Tryz.func105.trans (congrArg some (by kernel_rfl))
  f197:=Tryz.func137.trans (congrArg some (by kernel_rfl))
  f217:=Tryz.func135.trans (congrArg some (by kernel_rfl))
  f224:=Tryz.func133.trans (congrArg some (by kernel_rfl))
  f225:=Tryz.func134.trans (congrArg some (by kernel_rfl))
  f227:=Tryz.func116.trans (congrArg some (by kernel_rfl))
  f228:=Tryz.func117.trans (congrArg some (by kernel_rfl))
  f231:=Tryz.func119.trans (congrArg some (by kernel_rfl))
  f232:=Tryz.func120.trans (congrArg some (by kernel_rfl))
  f233:=Tryz.func121.trans (congrArg some (by kernel_rfl))
  f234:=Tryz.func122.trans (congrArg some (by kernel_rfl))
  f235:=Tryz.func123.trans (congrArg some (by kernel_rfl))
  f236:=Tryz.func124.trans (congrArg some (by kernel_rfl))
  f260:=Tryz.func145.trans (congrArg some (by kernel_rfl))
  f266:=Tryz.func143.trans (congrArg some (by kernel_rfl))
  f271:=Tryz.func139.trans (congrArg some (by kernel_rfl))
  t0:=Tryz.underlying0
  a0:=Tryz.isAgg0
  z0:=Tryz.sizeOf0
  v0:=Tryz.zeroValue0
  t3:=Tryz.underlying3
  a3:=Tryz.isAgg3
  z3:=Tryz.sizeOf3
  v3:=Tryz.zeroValue3
  t4:=Tryz.underlying4
  a4:=Tryz.isAgg4
  z4:=Tryz.sizeOf4
  v4:=Tryz.zeroValue4
  t5:=Tryz.underlying5
  a5:=Tryz.isAgg5
  z5:=Tryz.sizeOf5
  v5:=Tryz.zeroValue5
  t9:=Tryz.underlying9
  a9:=Tryz.isAgg9
  z9:=Tryz.sizeOf9
  v9:=Tryz.zeroValue9
  t21:=Tryz.underlying21
  a21:=Tryz.isAgg21
  z21:=Tryz.sizeOf21
  v21:=Tryz.zeroValue21
  t46:=Tryz.underlying200
  a46:=Tryz.isAgg200
  z46:=Tryz.sizeOf200
  v46:=Tryz.zeroValue200
  t105:=Tryz.underlying201
  a105:=Tryz.isAgg201
  z105:=Tryz.sizeOf201
  v105:=Tryz.zeroValue201
  t116:=Tryz.underlying189
  a116:=Tryz.isAgg189
  z116:=Tryz.sizeOf189
  t117:=Tryz.underlying190
  a117:=Tryz.isAgg190
  z117:=Tryz.sizeOf190
  v117:=Tryz.zeroValue190
  t119:=Tryz.underlying209
  a119:=Tryz.isAgg209
  z119:=Tryz.sizeOf209
  t124:=Tryz.underlying194
  a124:=Tryz.isAgg194
  z124:=Tryz.sizeOf194
  v124:=Tryz.zeroValue194
  t138:=Tryz.underlying211
  a138:=Tryz.isAgg211
  z138:=Tryz.sizeOf211
  v138:=Tryz.zeroValue211
  t139:=Tryz.underlying212
  a139:=Tryz.isAgg212
  z139:=Tryz.sizeOf212
  v139:=Tryz.zeroValue212
  g3:=by kernel_rfl
  g4:=by kernel_rfl }
open Go.RowKit in
theorem Tryz.strings_Trim_one (s : ByteArray) (c : UInt8) (hc : c.toNat < 128) (w : World) (hs : s.size ≤ 9223372036854775807) :
    Calls Tryz.prog 105 #[.string s,.string ⟨#[c]⟩] w fun e w'=>e = .returned (.string ⟨(Lib.trimB s.data.toList c).toArray⟩) ∧ (w' = w ∨ w' = w.drew):=Any.strings_Trim_one Tryz.lays160 s c hc w hs
def Tryz.lays119_ren : Go.Shelf.Ren:=⟨fun|119=>132|n=>n,fun|21=>21|4=>4|n=>n,fun|n=>n⟩
theorem Tryz.lays119 : Go.Proofs.Lays.n119 Tryz.prog Tryz.lays119_ren:={
  mixed:=by kernel_rfl
  f119:=Tryz.func132.trans (congrArg some (by kernel_rfl))
  t4:=Tryz.underlying4
  a4:=Tryz.isAgg4
  z4:=Tryz.sizeOf4
  v4:=Tryz.zeroValue4
  t21:=Tryz.underlying21
  a21:=Tryz.isAgg21
  z21:=Tryz.sizeOf21
  v21:=Tryz.zeroValue21 }
theorem Tryz.utf8_ValidRune (r : Int) (w : World) :
    Calls Tryz.prog 132 #[.int .i32 r] w fun e w'=>e = .returned (.bool (Lib.validRune r)) ∧ w' = w:=Any.utf8_ValidRune Tryz.lays119 r w
def Tryz.lays120_ren : Go.Shelf.Ren:=⟨fun|120=>146|n=>n,fun|5=>5|4=>4|n=>n,fun|n=>n⟩
def Tryz.lays137_ren : Go.Shelf.Ren:=⟨fun|137=>131|217=>135|266=>143|n=>n,fun|9=>9|5=>5|3=>3|n=>n,fun|n=>n⟩
theorem Tryz.lays137 : Go.Proofs.Lays.n137 Tryz.prog Tryz.lays137_ren:={
  mixed:=by kernel_rfl
  f137:=Tryz.func131.trans (congrArg some (by kernel_rfl))
  f217:=Tryz.func135.trans (congrArg some (by kernel_rfl))
  f266:=Tryz.func143.trans (congrArg some (by kernel_rfl))
  t3:=Tryz.underlying3
  a3:=Tryz.isAgg3
  z3:=Tryz.sizeOf3
  v3:=Tryz.zeroValue3
  t5:=Tryz.underlying5
  a5:=Tryz.isAgg5
  z5:=Tryz.sizeOf5
  v5:=Tryz.zeroValue5
  t9:=Tryz.underlying9
  a9:=Tryz.isAgg9
  z9:=Tryz.sizeOf9
  v9:=Tryz.zeroValue9 }
open Go.RowKit in
theorem Tryz.strings_IndexByte (s : ByteArray) (c : Int) (w : World) :
    Calls Tryz.prog 131 #[.string s,.int .u8 c] w fun e w'=>e = .returned (.int .i64 (Lib.indexByte s.data.toList c.toNat.toUInt8)) ∧ w' = w:=Any.strings_IndexByte Tryz.lays137 s c w
open Go.RowKit in
theorem Tryz.Builder_String_f (B b : Nat) (l : List UInt8) (w : World) (h : Lib.IsBuilderF 119 5 B b (Lib.byteCells l) w) (h0 : l ≠ []) :
    Calls Tryz.prog 49 #[.pointer (some ⟨b,0,none⟩)] w fun e w'=>e = .returned (.string ⟨l.toArray⟩) ∧ (Lib.IsBuilderF 119 5 B b (Lib.byteCells l) w' ∧ Below B w w'):=Any.Builder_String_f Tryz.lays169 Tryz.Builder_Extra_169 B b l w h h0
open Go.RowKit in
theorem Tryz.Builder_String_empty_f (B b : Nat) (w : World) (h : Lib.IsBuilderF 119 5 B b [] w) (hBw : B ≤ w.heap.size) :
    Calls Tryz.prog 49 #[.pointer (some ⟨b,0,none⟩)] w fun e w'=>e = .returned (.string ⟨#[]⟩) ∧ (Lib.IsBuilderF 119 5 B b [] w' ∧ Below B w w'):=Any.Builder_String_empty_f Tryz.lays169 Tryz.Builder_Extra_169 B b w h hBw
open Go.RowKit in
theorem Tryz.Builder_String_any_f (B b : Nat) (l : List UInt8) (w : World) (h : Lib.IsBuilderF 119 5 B b (Lib.byteCells l) w) (hBw : B ≤ w.heap.size) :
    Calls Tryz.prog 49 #[.pointer (some ⟨b,0,none⟩)] w fun e w'=>e = .returned (.string ⟨l.toArray⟩) ∧ (Lib.IsBuilderF 119 5 B b (Lib.byteCells l) w' ∧ Below B w w'):=Any.Builder_String_any_f Tryz.lays169 Tryz.Builder_Extra_169 B b l w h hBw
open Go.RowKit in
theorem Tryz.Builder_String_k (B b : Nat) (l : List UInt8) (w : World) (h : Lib.IsBuilderF 119 5 B b (Lib.byteCells l) w) (h0 : l ≠ []) :
    Calls Tryz.prog 49 #[.pointer (some ⟨b,0,none⟩)] w fun e w'=>e = .returned (.string ⟨l.toArray⟩) ∧ (Lib.IsBuilderF 119 5 B b (Lib.byteCells l) w' ∧ Below B w w' ∧ Lib.OthersKept 5 (some b) w w'):=Any.Builder_String_k Tryz.lays169 Tryz.Builder_Extra_169 B b l w h h0
open Go.RowKit in
theorem Tryz.Builder_String_empty_k (B b : Nat) (w : World) (h : Lib.IsBuilderF 119 5 B b [] w) (hBw : B ≤ w.heap.size) :
    Calls Tryz.prog 49 #[.pointer (some ⟨b,0,none⟩)] w fun e w'=>e = .returned (.string ⟨#[]⟩) ∧ (Lib.IsBuilderF 119 5 B b [] w' ∧ Below B w w' ∧ Lib.OthersKept 5 (some b) w w'):=Any.Builder_String_empty_k Tryz.lays169 Tryz.Builder_Extra_169 B b w h hBw
open Go.RowKit in
theorem Tryz.Builder_String_any_k (B b : Nat) (l : List UInt8) (w : World) (h : Lib.IsBuilderF 119 5 B b (Lib.byteCells l) w) (hBw : B ≤ w.heap.size) :
    Calls Tryz.prog 49 #[.pointer (some ⟨b,0,none⟩)] w fun e w'=>e = .returned (.string ⟨l.toArray⟩) ∧ (Lib.IsBuilderF 119 5 B b (Lib.byteCells l) w' ∧ Below B w w' ∧ Lib.OthersKept 5 (some b) w w'):=Any.Builder_String_any_k Tryz.lays169 Tryz.Builder_Extra_169 B b l w h hBw
def Tryz.lays195_ren : Go.Shelf.Ren:=⟨fun|195=>148|n=>n,fun|9=>9|3=>3|0=>0|4=>4|n=>n,fun|n=>n⟩
theorem Tryz.lays195 : Go.Proofs.Lays.n195 Tryz.prog Tryz.lays195_ren:={
  mixed:=by kernel_rfl
  f195:=Tryz.func148.trans (congrArg some (by kernel_rfl))
  t0:=Tryz.underlying0
  a0:=Tryz.isAgg0
  z0:=Tryz.sizeOf0
  v0:=Tryz.zeroValue0
  t3:=Tryz.underlying3
  a3:=Tryz.isAgg3
  z3:=Tryz.sizeOf3
  v3:=Tryz.zeroValue3
  t4:=Tryz.underlying4
  a4:=Tryz.isAgg4
  z4:=Tryz.sizeOf4
  v4:=Tryz.zeroValue4
  t9:=Tryz.underlying9
  a9:=Tryz.isAgg9
  z9:=Tryz.sizeOf9
  v9:=Tryz.zeroValue9 }
open Go.RowKit in
theorem Tryz.utf8_RuneCountInString (s : ByteArray) (w : World) (hs : s.size < 9223372036854775807) :
    Calls Tryz.prog 148 #[.string s] w fun e w'=>e = .returned (.int .i64 (Lib.runeCount s)) ∧ ∃ pos,w' = w.iter s pos:=Any.utf8_RuneCountInString Tryz.lays195 s w hs
open Go.RowKit in
theorem Tryz.Builder_grow_fresh_cap (B b n : Nat) (w : World) (hB : B ≤ b) (hbk : w.heap[b]? = some (.cells #[.pointer (some ⟨b,0,none⟩),.slice none 0 0] 119 (0,0))) (hBw : B ≤ w.heap.size) (hn : n ≤ 281474976710656) :
    Calls Tryz.prog 113 #[.pointer (some ⟨b,0,none⟩),.int .i64 n] w fun e w'=>e = .returned (.tuple #[]) ∧ (Lib.BuilderAt 119 5 B b (.pointer (some ⟨b,0,none⟩)) [] w' ∧ Below B w w') ∧ ∃ p cap,w'.cell? ⟨b,1,none⟩ = some (.slice p 0 cap) ∧ n ≤ cap:=Any.Builder_grow_fresh_cap Tryz.lays241 Tryz.Builder_Extra_241 B b n w hB hbk hBw hn
open Go.RowKit in
theorem Tryz.Builder_Grow_fresh_cap (B b n : Nat) (w : World) (hB : B ≤ b) (hbk : w.heap[b]? = some (.cells #[.pointer none,.slice none 0 0] 119 (0,0))) (hBw : B ≤ w.heap.size) (hn : n ≤ 281474976710656) :
    Calls Tryz.prog 101 #[.pointer (some ⟨b,0,none⟩),.int .i64 n] w fun e w'=>e = .returned (.tuple #[]) ∧ (Lib.BuilderAt 119 5 B b (.pointer (some ⟨b,0,none⟩)) [] w' ∧ Below B w w') ∧ ∃ p cap,w'.cell? ⟨b,1,none⟩ = some (.slice p 0 cap) ∧ n ≤ cap:=Any.Builder_Grow_fresh_cap Tryz.lays165 Tryz.Builder_Extra_165 B b n w hB hbk hBw hn
def Tryz.lays217_ren : Go.Shelf.Ren:=⟨fun|217=>135|266=>143|n=>n,fun|9=>9|5=>5|3=>3|n=>n,fun|n=>n⟩
theorem Tryz.lays217 : Go.Proofs.Lays.n217 Tryz.prog Tryz.lays217_ren:={
  mixed:=by kernel_rfl
  f217:=Tryz.func135.trans (congrArg some (by kernel_rfl))
  f266:=Tryz.func143.trans (congrArg some (by kernel_rfl))
  t3:=Tryz.underlying3
  a3:=Tryz.isAgg3
  z3:=Tryz.sizeOf3
  v3:=Tryz.zeroValue3
  t5:=Tryz.underlying5
  a5:=Tryz.isAgg5
  z5:=Tryz.sizeOf5
  v5:=Tryz.zeroValue5
  t9:=Tryz.underlying9
  a9:=Tryz.isAgg9
  z9:=Tryz.sizeOf9
  v9:=Tryz.zeroValue9 }
open Go.RowKit Go.Lib in
theorem Tryz.stringslite_IndexByte (s : ByteArray) (c : Int) (w : World) :
    Calls Tryz.prog 135 #[.string s,.int .u8 c] w fun e w'=>e = .returned (.int .i64 (Lib.indexByte s.data.toList c.toNat.toUInt8)) ∧ w' = w:=Any.stringslite_IndexByte Tryz.lays217 s c w
def Tryz.lays224_ren : Go.Shelf.Ren:=⟨fun|224=>133|n=>n,fun|3=>3|n=>n,fun|n=>n⟩
theorem Tryz.lays224 : Go.Proofs.Lays.n224 Tryz.prog Tryz.lays224_ren:={
  mixed:=by kernel_rfl
  f224:=Tryz.func133.trans (congrArg some (by kernel_rfl))
  t3:=Tryz.underlying3
  a3:=Tryz.isAgg3
  z3:=Tryz.sizeOf3
  v3:=Tryz.zeroValue3 }
open Go.RowKit Go.Lib in
theorem Tryz.bytealg_Cutover (n : Int) (h0 : 0 ≤ n) (h1 : n < 4611686018427387904) (w : World) :
    Calls Tryz.prog 133 #[.int .i64 n] w fun e w'=>e = .returned (.int .i64 ((n + 16) / 8)) ∧ w' = w:=Any.bytealg_Cutover Tryz.lays224 n h0 h1 w
def Tryz.lays314_ren : Go.Shelf.Ren:=⟨fun|314=>144|n=>n,fun|9=>9|51=>205|3=>3|4=>4|5=>5|46=>200|n=>n,fun|n=>n⟩
theorem Tryz.lays314 : Go.Proofs.Lays.n314 Tryz.prog Tryz.lays314_ren:={
  mixed:=by kernel_rfl
  f314:=Tryz.func144.trans (congrArg some (by kernel_rfl))
  t3:=Tryz.underlying3
  a3:=Tryz.isAgg3
  z3:=Tryz.sizeOf3
  v3:=Tryz.zeroValue3
  t4:=Tryz.underlying4
  a4:=Tryz.isAgg4
  z4:=Tryz.sizeOf4
  v4:=Tryz.zeroValue4
  t5:=Tryz.underlying5
  a5:=Tryz.isAgg5
  z5:=Tryz.sizeOf5
  v5:=Tryz.zeroValue5
  t9:=Tryz.underlying9
  a9:=Tryz.isAgg9
  z9:=Tryz.sizeOf9
  v9:=Tryz.zeroValue9
  t46:=Tryz.underlying200
  a46:=Tryz.isAgg200
  z46:=Tryz.sizeOf200
  v46:=Tryz.zeroValue200
  t51:=Tryz.underlying205
  a51:=Tryz.isAgg205
  z51:=Tryz.sizeOf205
  v51:=Tryz.zeroValue205 }
open Go.RowKit Go.Lib in
theorem Tryz.bytealg_hashStr (sep : ByteArray) (hs : sep.size < 4294967281) (w : World) :
    Calls Tryz.prog 144 #[.string sep] w fun e w'=>e = .returned (.tuple #[.int .u32 (RK.H sep.data.toList % 4294967296),.int .u32 (16777619 ^ sep.size % 4294967296)]) ∧ w' = w:=Any.bytealg_hashStr Tryz.lays314 sep hs w
def Tryz.lays267_ren : Go.Shelf.Ren:=⟨fun|267=>136|314=>144|n=>n,fun|9=>9|3=>3|146=>206|51=>205|4=>4|5=>5|46=>200|n=>n,fun|n=>n⟩
theorem Tryz.lays267 : Go.Proofs.Lays.n267 Tryz.prog Tryz.lays267_ren:={
  mixed:=by kernel_rfl
  f267:=Tryz.func136.trans (congrArg some (by kernel_rfl))
  f314:=Tryz.func144.trans (congrArg some (by kernel_rfl))
  t3:=Tryz.underlying3
  a3:=Tryz.isAgg3
  z3:=Tryz.sizeOf3
  v3:=Tryz.zeroValue3
  t4:=Tryz.underlying4
  a4:=Tryz.isAgg4
  z4:=Tryz.sizeOf4
  v4:=Tryz.zeroValue4
  t5:=Tryz.underlying5
  a5:=Tryz.isAgg5
  z5:=Tryz.sizeOf5
  v5:=Tryz.zeroValue5
  t9:=Tryz.underlying9
  a9:=Tryz.isAgg9
  z9:=Tryz.sizeOf9
  v9:=Tryz.zeroValue9
  t46:=Tryz.underlying200
  a46:=Tryz.isAgg200
  z46:=Tryz.sizeOf200
  v46:=Tryz.zeroValue200
  t51:=Tryz.underlying205
  a51:=Tryz.isAgg205
  z51:=Tryz.sizeOf205
  v51:=Tryz.zeroValue205
  t146:=Tryz.underlying206
  a146:=Tryz.isAgg206
  z146:=Tryz.sizeOf206
  v146:=Tryz.zeroValue206 }
open Go.RowKit Go.Lib in
theorem Tryz.bytealg_IndexRabinKarp (s sep : ByteArray) (h1 : 1 ≤ sep.size) (h2 : sep.size ≤ s.size) (hs : s.size < 4294967281) (w : World) :
    Calls Tryz.prog 136 #[.string s,.string sep] w fun e w'=>e = .returned (.int .i64 (Lib.index s.data.toList sep.data.toList)) ∧ w' = w:=Any.bytealg_IndexRabinKarp Tryz.lays267 s sep h1 h2 hs w
def Tryz.lays219_ren : Go.Shelf.Ren:=⟨fun|219=>118|217=>135|225=>134|224=>133|267=>136|266=>143|314=>144|n=>n,fun|9=>9|3=>3|4=>4|5=>5|46=>200|146=>206|51=>205|n=>n,fun|1=>0|n=>n⟩
theorem Tryz.lays219 : Go.Proofs.Lays.n219 Tryz.prog Tryz.lays219_ren:={
  mixed:=by kernel_rfl
  f217:=Tryz.func135.trans (congrArg some (by kernel_rfl))
  f219:=Tryz.func118.trans (congrArg some (by kernel_rfl))
  f224:=Tryz.func133.trans (congrArg some (by kernel_rfl))
  f225:=Tryz.func134.trans (congrArg some (by kernel_rfl))
  f266:=Tryz.func143.trans (congrArg some (by kernel_rfl))
  f267:=Tryz.func136.trans (congrArg some (by kernel_rfl))
  f314:=Tryz.func144.trans (congrArg some (by kernel_rfl))
  t3:=Tryz.underlying3
  a3:=Tryz.isAgg3
  z3:=Tryz.sizeOf3
  v3:=Tryz.zeroValue3
  t4:=Tryz.underlying4
  a4:=Tryz.isAgg4
  z4:=Tryz.sizeOf4
  v4:=Tryz.zeroValue4
  t5:=Tryz.underlying5
  a5:=Tryz.isAgg5
  z5:=Tryz.sizeOf5
  v5:=Tryz.zeroValue5
  t9:=Tryz.underlying9
  a9:=Tryz.isAgg9
  z9:=Tryz.sizeOf9
  v9:=Tryz.zeroValue9
  t46:=Tryz.underlying200
  a46:=Tryz.isAgg200
  z46:=Tryz.sizeOf200
  v46:=Tryz.zeroValue200
  t51:=Tryz.underlying205
  a51:=Tryz.isAgg205
  z51:=Tryz.sizeOf205
  v51:=Tryz.zeroValue205
  t146:=Tryz.underlying206
  a146:=Tryz.isAgg206
  z146:=Tryz.sizeOf206
  v146:=Tryz.zeroValue206
  g1:=by kernel_rfl }
open Go.RowKit Go.Lib in
theorem Tryz.stringslite_Index_one (s : ByteArray) (c : UInt8) (w : World) :
    Calls Tryz.prog 118 #[.string s,.string ⟨#[c]⟩] w fun e w'=>e = .returned (.int .i64 (Lib.indexByte s.data.toList c)) ∧ w' = w:=Any.stringslite_Index_one Tryz.lays219 s c w
open Go.RowKit Go.Lib in
theorem Tryz.stringslite_Index (s sub : ByteArray) (m : Int) (w : World) (hs : s.size < 4294967281) (hm : w.cell? ⟨0,0,none⟩ = some (.int .i64 m)) :
    Calls Tryz.prog 118 #[.string s,.string sub] w fun e w'=>e = .returned (.int .i64 (Lib.index s.data.toList sub.data.toList)) ∧ w' = w:=Any.stringslite_Index Tryz.lays219 s sub m w hs hm
def Tryz.lays143_ren : Go.Shelf.Ren:=⟨fun|143=>108|219=>118|217=>135|225=>134|224=>133|267=>136|266=>143|314=>144|n=>n,fun|9=>9|3=>3|4=>4|5=>5|46=>200|146=>206|51=>205|n=>n,fun|1=>0|n=>n⟩
theorem Tryz.lays143 : Go.Proofs.Lays.n143 Tryz.prog Tryz.lays143_ren:={
  mixed:=by kernel_rfl
  f143:=Tryz.func108.trans (congrArg some (by kernel_rfl))
  f217:=Tryz.func135.trans (congrArg some (by kernel_rfl))
  f219:=Tryz.func118.trans (congrArg some (by kernel_rfl))
  f224:=Tryz.func133.trans (congrArg some (by kernel_rfl))
  f225:=Tryz.func134.trans (congrArg some (by kernel_rfl))
  f266:=Tryz.func143.trans (congrArg some (by kernel_rfl))
  f267:=Tryz.func136.trans (congrArg some (by kernel_rfl))
  f314:=Tryz.func144.trans (congrArg some (by kernel_rfl))
  t3:=Tryz.underlying3
  a3:=Tryz.isAgg3
  z3:=Tryz.sizeOf3
  v3:=Tryz.zeroValue3
  t4:=Tryz.underlying4
  a4:=Tryz.isAgg4
  z4:=Tryz.sizeOf4
  v4:=Tryz.zeroValue4
  t5:=Tryz.underlying5
  a5:=Tryz.isAgg5
  z5:=Tryz.sizeOf5
  v5:=Tryz.zeroValue5
  t9:=Tryz.underlying9
  a9:=Tryz.isAgg9
  z9:=Tryz.sizeOf9
  v9:=Tryz.zeroValue9
  t46:=Tryz.underlying200
  a46:=Tryz.isAgg200
  z46:=Tryz.sizeOf200
  v46:=Tryz.zeroValue200
  t51:=Tryz.underlying205
  a51:=Tryz.isAgg205
  z51:=Tryz.sizeOf205
  v51:=Tryz.zeroValue205
  t146:=Tryz.underlying206
  a146:=Tryz.isAgg206
  z146:=Tryz.sizeOf206
  v146:=Tryz.zeroValue206
  g1:=by kernel_rfl }
open Go.RowKit Go.Lib in
theorem Tryz.strings_Index_one (s : ByteArray) (c : UInt8) (w : World) :
    Calls Tryz.prog 108 #[.string s,.string ⟨#[c]⟩] w fun e w'=>e = .returned (.int .i64 (Lib.indexByte s.data.toList c)) ∧ w' = w:=Any.strings_Index_one Tryz.lays143 s c w
open Go.RowKit Go.Lib in
theorem Tryz.strings_Index (s sub : ByteArray) (m : Int) (w : World) (hs : s.size < 4294967281) (hm : w.cell? ⟨0,0,none⟩ = some (.int .i64 m)) :
    Calls Tryz.prog 108 #[.string s,.string sub] w fun e w'=>e = .returned (.int .i64 (Lib.index s.data.toList sub.data.toList)) ∧ w' = w:=Any.strings_Index Tryz.lays143 s sub m w hs hm
def Tryz.lays144_ren : Go.Shelf.Ren:=⟨fun|144=>93|143=>108|219=>118|217=>135|225=>134|224=>133|267=>136|266=>143|314=>144|n=>n,fun|9=>9|4=>4|3=>3|5=>5|46=>200|146=>206|51=>205|n=>n,fun|1=>0|n=>n⟩
theorem Tryz.lays144 : Go.Proofs.Lays.n144 Tryz.prog Tryz.lays144_ren:={
  mixed:=by kernel_rfl
  f143:=Tryz.func108.trans (congrArg some (by kernel_rfl))
  f144:=Tryz.func93.trans (congrArg some (by kernel_rfl))
  f217:=Tryz.func135.trans (congrArg some (by kernel_rfl))
  f219:=Tryz.func118.trans (congrArg some (by kernel_rfl))
  f224:=Tryz.func133.trans (congrArg some (by kernel_rfl))
  f225:=Tryz.func134.trans (congrArg some (by kernel_rfl))
  f266:=Tryz.func143.trans (congrArg some (by kernel_rfl))
  f267:=Tryz.func136.trans (congrArg some (by kernel_rfl))
  f314:=Tryz.func144.trans (congrArg some (by kernel_rfl))
  t3:=Tryz.underlying3
  a3:=Tryz.isAgg3
  z3:=Tryz.sizeOf3
  v3:=Tryz.zeroValue3
  t4:=Tryz.underlying4
  a4:=Tryz.isAgg4
  z4:=Tryz.sizeOf4
  v4:=Tryz.zeroValue4
  t5:=Tryz.underlying5
  a5:=Tryz.isAgg5
  z5:=Tryz.sizeOf5
  v5:=Tryz.zeroValue5
  t9:=Tryz.underlying9
  a9:=Tryz.isAgg9
  z9:=Tryz.sizeOf9
  v9:=Tryz.zeroValue9
  t46:=Tryz.underlying200
  a46:=Tryz.isAgg200
  z46:=Tryz.sizeOf200
  v46:=Tryz.zeroValue200
  t51:=Tryz.underlying205
  a51:=Tryz.isAgg205
  z51:=Tryz.sizeOf205
  v51:=Tryz.zeroValue205
  t146:=Tryz.underlying206
  a146:=Tryz.isAgg206
  z146:=Tryz.sizeOf206
  v146:=Tryz.zeroValue206
  g1:=by kernel_rfl }
open Go.RowKit Go.Lib in
theorem Tryz.strings_Contains_one (s : ByteArray) (c : UInt8) (w : World) :
    Calls Tryz.prog 93 #[.string s,.string ⟨#[c]⟩] w fun e w'=>e = .returned (.bool (decide (0 ≤ Lib.indexByte s.data.toList c))) ∧ w' = w:=Any.strings_Contains_one Tryz.lays144 s c w
open Go.RowKit Go.Lib in
theorem Tryz.strings_Contains (s sub : ByteArray) (m : Int) (w : World) (hs : s.size < 4294967281) (hm : w.cell? ⟨0,0,none⟩ = some (.int .i64 m)) :
    Calls Tryz.prog 93 #[.string s,.string sub] w fun e w'=>e = .returned (.bool (Lib.contains s.data.toList sub.data.toList)) ∧ w' = w:=Any.strings_Contains Tryz.lays144 s sub m w hs hm
def Tryz.lays220_ren : Go.Shelf.Ren:=⟨fun|220=>104|219=>118|217=>135|225=>134|224=>133|267=>136|266=>143|314=>144|n=>n,fun|9=>9|4=>4|3=>3|5=>5|46=>200|146=>206|51=>205|n=>n,fun|1=>0|n=>n⟩
theorem Tryz.lays220 : Go.Proofs.Lays.n220 Tryz.prog Tryz.lays220_ren:={
  mixed:=by kernel_rfl
  f217:=Tryz.func135.trans (congrArg some (by kernel_rfl))
  f219:=Tryz.func118.trans (congrArg some (by kernel_rfl))
  f220:=Tryz.func104.trans (congrArg some (by kernel_rfl))
  f224:=Tryz.func133.trans (congrArg some (by kernel_rfl))
  f225:=Tryz.func134.trans (congrArg some (by kernel_rfl))
  f266:=Tryz.func143.trans (congrArg some (by kernel_rfl))
  f267:=Tryz.func136.trans (congrArg some (by kernel_rfl))
  f314:=Tryz.func144.trans (congrArg some (by kernel_rfl))
  t3:=Tryz.underlying3
  a3:=Tryz.isAgg3
  z3:=Tryz.sizeOf3
  v3:=Tryz.zeroValue3
  t4:=Tryz.underlying4
  a4:=Tryz.isAgg4
  z4:=Tryz.sizeOf4
  v4:=Tryz.zeroValue4
  t5:=Tryz.underlying5
  a5:=Tryz.isAgg5
  z5:=Tryz.sizeOf5
  v5:=Tryz.zeroValue5
  t9:=Tryz.underlying9
  a9:=Tryz.isAgg9
  z9:=Tryz.sizeOf9
  v9:=Tryz.zeroValue9
  t46:=Tryz.underlying200
  a46:=Tryz.isAgg200
  z46:=Tryz.sizeOf200
  v46:=Tryz.zeroValue200
  t51:=Tryz.underlying205
  a51:=Tryz.isAgg205
  z51:=Tryz.sizeOf205
  v51:=Tryz.zeroValue205
  t146:=Tryz.underlying206
  a146:=Tryz.isAgg206
  z146:=Tryz.sizeOf206
  v146:=Tryz.zeroValue206
  g1:=by kernel_rfl }
open Go.RowKit Go.Lib in
theorem Tryz.stringslite_Cut (s sep : ByteArray) (m : Int) (w : World) (hs : s.size < 4294967281) (hm : w.cell? ⟨0,0,none⟩ = some (.int .i64 m)) :
    Calls Tryz.prog 104 #[.string s,.string sep] w fun e w'=>e = .returned (.tuple #[.string ⟨(Lib.cut s.data.toList sep.data.toList).1.toArray⟩,.string ⟨(Lib.cut s.data.toList sep.data.toList).2.1.toArray⟩,.bool (Lib.cut s.data.toList sep.data.toList).2.2]) ∧ ∃ n,w' = w.drewN n:=Any.stringslite_Cut Tryz.lays220 s sep m w hs hm
def Tryz.lays145_ren : Go.Shelf.Ren:=⟨fun|145=>81|220=>104|219=>118|217=>135|225=>134|224=>133|267=>136|266=>143|314=>144|n=>n,fun|9=>9|4=>4|59=>161|3=>3|5=>5|46=>200|146=>206|51=>205|n=>n,fun|1=>0|n=>n⟩
theorem Tryz.lays145 : Go.Proofs.Lays.n145 Tryz.prog Tryz.lays145_ren:={
  mixed:=by kernel_rfl
  f145:=Tryz.func81.trans (congrArg some (by kernel_rfl))
  f217:=Tryz.func135.trans (congrArg some (by kernel_rfl))
  f219:=Tryz.func118.trans (congrArg some (by kernel_rfl))
  f220:=Tryz.func104.trans (congrArg some (by kernel_rfl))
  f224:=Tryz.func133.trans (congrArg some (by kernel_rfl))
  f225:=Tryz.func134.trans (congrArg some (by kernel_rfl))
  f266:=Tryz.func143.trans (congrArg some (by kernel_rfl))
  f267:=Tryz.func136.trans (congrArg some (by kernel_rfl))
  f314:=Tryz.func144.trans (congrArg some (by kernel_rfl))
  t3:=Tryz.underlying3
  a3:=Tryz.isAgg3
  z3:=Tryz.sizeOf3
  v3:=Tryz.zeroValue3
  t4:=Tryz.underlying4
  a4:=Tryz.isAgg4
  z4:=Tryz.sizeOf4
  v4:=Tryz.zeroValue4
  t5:=Tryz.underlying5
  a5:=Tryz.isAgg5
  z5:=Tryz.sizeOf5
  v5:=Tryz.zeroValue5
  t9:=Tryz.underlying9
  a9:=Tryz.isAgg9
  z9:=Tryz.sizeOf9
  v9:=Tryz.zeroValue9
  t46:=Tryz.underlying200
  a46:=Tryz.isAgg200
  z46:=Tryz.sizeOf200
  v46:=Tryz.zeroValue200
  t51:=Tryz.underlying205
  a51:=Tryz.isAgg205
  z51:=Tryz.sizeOf205
  v51:=Tryz.zeroValue205
  t59:=Tryz.underlying161
  a59:=Tryz.isAgg161
  z59:=Tryz.sizeOf161
  v59:=Tryz.zeroValue161
  t146:=Tryz.underlying206
  a146:=Tryz.isAgg206
  z146:=Tryz.sizeOf206
  v146:=Tryz.zeroValue206
  g1:=by kernel_rfl }
open Go.RowKit Go.Lib in
theorem Tryz.strings_Cut (s sep : ByteArray) (m : Int) (w : World) (hs : s.size < 4294967281) (hm : w.cell? ⟨0,0,none⟩ = some (.int .i64 m)) :
    Calls Tryz.prog 81 #[.string s,.string sep] w fun e w'=>e = .returned (.tuple #[.string ⟨(Lib.cut s.data.toList sep.data.toList).1.toArray⟩,.string ⟨(Lib.cut s.data.toList sep.data.toList).2.1.toArray⟩,.bool (Lib.cut s.data.toList sep.data.toList).2.2]) ∧ ∃ n,w' = w.drewN n:=Any.strings_Cut Tryz.lays145 s sep m w hs hm
def Tryz.lays138_ren : Go.Shelf.Ren:=⟨fun|138=>142|195=>148|218=>149|143=>108|219=>118|217=>135|225=>134|224=>133|267=>136|266=>143|314=>144|n=>n,fun|9=>9|3=>3|4=>4|5=>5|0=>0|46=>200|146=>206|51=>205|n=>n,fun|1=>0|n=>n⟩
theorem Tryz.lays138 : Go.Proofs.Lays.n138 Tryz.prog Tryz.lays138_ren:={
  mixed:=by kernel_rfl
  f138:=Tryz.func142.trans (congrArg some (by kernel_rfl))
  f143:=Tryz.func108.trans (congrArg some (by kernel_rfl))
  f195:=Tryz.func148.trans (congrArg some (by kernel_rfl))
  f217:=Tryz.func135.trans (congrArg some (by kernel_rfl))
  f218:=Tryz.func149.trans (congrArg some (by kernel_rfl))
  f219:=Tryz.func118.trans (congrArg some (by kernel_rfl))
  f224:=Tryz.func133.trans (congrArg some (by kernel_rfl))
  f225:=Tryz.func134.trans (congrArg some (by kernel_rfl))
  f266:=Tryz.func143.trans (congrArg some (by kernel_rfl))
  f267:=Tryz.func136.trans (congrArg some (by kernel_rfl))
  f314:=Tryz.func144.trans (congrArg some (by kernel_rfl))
  t0:=Tryz.underlying0
  a0:=Tryz.isAgg0
  z0:=Tryz.sizeOf0
  v0:=Tryz.zeroValue0
  t3:=Tryz.underlying3
  a3:=Tryz.isAgg3
  z3:=Tryz.sizeOf3
  v3:=Tryz.zeroValue3
  t4:=Tryz.underlying4
  a4:=Tryz.isAgg4
  z4:=Tryz.sizeOf4
  v4:=Tryz.zeroValue4
  t5:=Tryz.underlying5
  a5:=Tryz.isAgg5
  z5:=Tryz.sizeOf5
  v5:=Tryz.zeroValue5
  t9:=Tryz.underlying9
  a9:=Tryz.isAgg9
  z9:=Tryz.sizeOf9
  v9:=Tryz.zeroValue9
  t46:=Tryz.underlying200
  a46:=Tryz.isAgg200
  z46:=Tryz.sizeOf200
  v46:=Tryz.zeroValue200
  t51:=Tryz.underlying205
  a51:=Tryz.isAgg205
  z51:=Tryz.sizeOf205
  v51:=Tryz.zeroValue205
  t146:=Tryz.underlying206
  a146:=Tryz.isAgg206
  z146:=Tryz.sizeOf206
  v146:=Tryz.zeroValue206
  g1:=by kernel_rfl }
open Go.RowKit Go.Lib in
theorem Tryz.strings_Count_one (s : ByteArray) (c : UInt8) (w : World) :
    Calls Tryz.prog 142 #[.string s,.string ⟨#[c]⟩] w fun e w'=>e = .returned (.int .i64 (Lib.countByte s.data.toList c)) ∧ w' = w:=Any.strings_Count_one Tryz.lays138 s c w
open Go.RowKit Go.Lib in
theorem Tryz.strings_Count (s sub : ByteArray) (m : Int) (w : World) (hs : s.size < 4294967281) (hm : w.cell? ⟨0,0,none⟩ = some (.int .i64 m)) (h2 : 2 ≤ sub.size) :
    Calls Tryz.prog 142 #[.string s,.string sub] w fun e w'=>e = .returned (.int .i64 (Lib.countB s sub)) ∧ w' = w:=Any.strings_Count Tryz.lays138 s sub m w hs hm h2
def Tryz.laysM219_ren : Go.Shelf.Ren:=⟨fun|219=>118|217=>135|225=>134|224=>133|267=>136|266=>143|314=>144|n=>n,fun|9=>9|3=>3|4=>4|5=>5|46=>200|146=>206|51=>205|n=>n,fun|1=>0|n=>n⟩
theorem Tryz.laysM219 : Go.Proofs.LaysM.n219 Tryz.prog Tryz.laysM219_ren:={
  mixed:=by kernel_rfl
  f217:=Tryz.func135.trans (congrArg some (by kernel_rfl))
  f219:=Tryz.func118.trans (congrArg some (by kernel_rfl))
  f224:=Tryz.func133.trans (congrArg some (by kernel_rfl))
  f225:=Tryz.func134.trans (congrArg some (by kernel_rfl))
  f266:=Tryz.func143.trans (congrArg some (by kernel_rfl))
  f267:=Tryz.func136.trans (congrArg some (by kernel_rfl))
  f314:=Tryz.func144.trans (congrArg some (by kernel_rfl))
  t3:=Tryz.underlying3
  a3:=Tryz.isAgg3
  z3:=Tryz.sizeOf3
  v3:=Tryz.zeroValue3
  t4:=Tryz.underlying4
  a4:=Tryz.isAgg4
  z4:=Tryz.sizeOf4
  v4:=Tryz.zeroValue4
  t5:=Tryz.underlying5
  a5:=Tryz.isAgg5
  z5:=Tryz.sizeOf5
  v5:=Tryz.zeroValue5
  t9:=Tryz.underlying9
  a9:=Tryz.isAgg9
  z9:=Tryz.sizeOf9
  v9:=Tryz.zeroValue9
  t46:=Tryz.underlying200
  a46:=Tryz.isAgg200
  z46:=Tryz.sizeOf200
  v46:=Tryz.zeroValue200
  t51:=Tryz.underlying205
  a51:=Tryz.isAgg205
  z51:=Tryz.sizeOf205
  v51:=Tryz.zeroValue205
  t146:=Tryz.underlying206
  a146:=Tryz.isAgg206
  z146:=Tryz.sizeOf206
  v146:=Tryz.zeroValue206
  g1:=by kernel_rfl
  i3:=by kernel_rfl
  i4:=by kernel_rfl
  i5:=by kernel_rfl
  i9:=by kernel_rfl
  i46:=by kernel_rfl
  i51:=by kernel_rfl
  i146:=by kernel_rfl
  m1:=by kernel_rfl
  s1_3:=fun w h=>Go.Proofs.cell_of_shapedOpen_int (zero:=#[.int .i64 0]) (t:=3) h (of_decide_eq_true (by kernel_rfl)) (by kernel_rfl) rfl (by kernel_rfl) (by kernel_rfl) Tryz.underlying3 }
open Go.RowKit Go.Lib in
theorem Tryz.stringslite_Index_shaped (s sub : ByteArray) (w : World) (h : w.ShapedOpen Tryz.prog) (hs : s.size < 4294967281) :
    Calls Tryz.prog 118 #[.string s,.string sub] w fun e w'=>e = .returned (.int .i64 (Lib.index s.data.toList sub.data.toList)) ∧ w' = w:=Any.stringslite_Index_shaped Tryz.laysM219 s sub w h hs
def Tryz.laysM143_ren : Go.Shelf.Ren:=⟨fun|143=>108|219=>118|217=>135|225=>134|224=>133|267=>136|266=>143|314=>144|n=>n,fun|9=>9|3=>3|4=>4|5=>5|46=>200|146=>206|51=>205|n=>n,fun|1=>0|n=>n⟩
theorem Tryz.laysM143 : Go.Proofs.LaysM.n143 Tryz.prog Tryz.laysM143_ren:={
  mixed:=by kernel_rfl
  f143:=Tryz.func108.trans (congrArg some (by kernel_rfl))
  f217:=Tryz.func135.trans (congrArg some (by kernel_rfl))
  f219:=Tryz.func118.trans (congrArg some (by kernel_rfl))
  f224:=Tryz.func133.trans (congrArg some (by kernel_rfl))
  f225:=Tryz.func134.trans (congrArg some (by kernel_rfl))
  f266:=Tryz.func143.trans (congrArg some (by kernel_rfl))
  f267:=Tryz.func136.trans (congrArg some (by kernel_rfl))
  f314:=Tryz.func144.trans (congrArg some (by kernel_rfl))
  t3:=Tryz.underlying3
  a3:=Tryz.isAgg3
  z3:=Tryz.sizeOf3
  v3:=Tryz.zeroValue3
  t4:=Tryz.underlying4
  a4:=Tryz.isAgg4
  z4:=Tryz.sizeOf4
  v4:=Tryz.zeroValue4
  t5:=Tryz.underlying5
  a5:=Tryz.isAgg5
  z5:=Tryz.sizeOf5
  v5:=Tryz.zeroValue5
  t9:=Tryz.underlying9
  a9:=Tryz.isAgg9
  z9:=Tryz.sizeOf9
  v9:=Tryz.zeroValue9
  t46:=Tryz.underlying200
  a46:=Tryz.isAgg200
  z46:=Tryz.sizeOf200
  v46:=Tryz.zeroValue200
  t51:=Tryz.underlying205
  a51:=Tryz.isAgg205
  z51:=Tryz.sizeOf205
  v51:=Tryz.zeroValue205
  t146:=Tryz.underlying206
  a146:=Tryz.isAgg206
  z146:=Tryz.sizeOf206
  v146:=Tryz.zeroValue206
  g1:=by kernel_rfl
  i3:=by kernel_rfl
  i4:=by kernel_rfl
  i5:=by kernel_rfl
  i9:=by kernel_rfl
  i46:=by kernel_rfl
  i51:=by kernel_rfl
  i146:=by kernel_rfl
  m1:=by kernel_rfl
  s1_3:=fun w h=>Go.Proofs.cell_of_shapedOpen_int (zero:=#[.int .i64 0]) (t:=3) h (of_decide_eq_true (by kernel_rfl)) (by kernel_rfl) rfl (by kernel_rfl) (by kernel_rfl) Tryz.underlying3 }
open Go.RowKit Go.Lib in
theorem Tryz.strings_Index_shaped (s sub : ByteArray) (w : World) (h : w.ShapedOpen Tryz.prog) (hs : s.size < 4294967281) :
    Calls Tryz.prog 108 #[.string s,.string sub] w fun e w'=>e = .returned (.int .i64 (Lib.index s.data.toList sub.data.toList)) ∧ w' = w:=Any.strings_Index_shaped Tryz.laysM143 s sub w h hs
def Tryz.laysM144_ren : Go.Shelf.Ren:=⟨fun|144=>93|143=>108|219=>118|217=>135|225=>134|224=>133|267=>136|266=>143|314=>144|n=>n,fun|9=>9|4=>4|3=>3|5=>5|46=>200|146=>206|51=>205|n=>n,fun|1=>0|n=>n⟩
theorem Tryz.laysM144 : Go.Proofs.LaysM.n144 Tryz.prog Tryz.laysM144_ren:={
  mixed:=by kernel_rfl
  f143:=Tryz.func108.trans (congrArg some (by kernel_rfl))
  f144:=Tryz.func93.trans (congrArg some (by kernel_rfl))
  f217:=Tryz.func135.trans (congrArg some (by kernel_rfl))
  f219:=Tryz.func118.trans (congrArg some (by kernel_rfl))
  f224:=Tryz.func133.trans (congrArg some (by kernel_rfl))
  f225:=Tryz.func134.trans (congrArg some (by kernel_rfl))
  f266:=Tryz.func143.trans (congrArg some (by kernel_rfl))
  f267:=Tryz.func136.trans (congrArg some (by kernel_rfl))
  f314:=Tryz.func144.trans (congrArg some (by kernel_rfl))
  t3:=Tryz.underlying3
  a3:=Tryz.isAgg3
  z3:=Tryz.sizeOf3
  v3:=Tryz.zeroValue3
  t4:=Tryz.underlying4
  a4:=Tryz.isAgg4
  z4:=Tryz.sizeOf4
  v4:=Tryz.zeroValue4
  t5:=Tryz.underlying5
  a5:=Tryz.isAgg5
  z5:=Tryz.sizeOf5
  v5:=Tryz.zeroValue5
  t9:=Tryz.underlying9
  a9:=Tryz.isAgg9
  z9:=Tryz.sizeOf9
  v9:=Tryz.zeroValue9
  t46:=Tryz.underlying200
  a46:=Tryz.isAgg200
  z46:=Tryz.sizeOf200
  v46:=Tryz.zeroValue200
  t51:=Tryz.underlying205
  a51:=Tryz.isAgg205
  z51:=Tryz.sizeOf205
  v51:=Tryz.zeroValue205
  t146:=Tryz.underlying206
  a146:=Tryz.isAgg206
  z146:=Tryz.sizeOf206
  v146:=Tryz.zeroValue206
  g1:=by kernel_rfl
  i3:=by kernel_rfl
  i4:=by kernel_rfl
  i5:=by kernel_rfl
  i9:=by kernel_rfl
  i46:=by kernel_rfl
  i51:=by kernel_rfl
  i146:=by kernel_rfl
  m1:=by kernel_rfl
  s1_3:=fun w h=>Go.Proofs.cell_of_shapedOpen_int (zero:=#[.int .i64 0]) (t:=3) h (of_decide_eq_true (by kernel_rfl)) (by kernel_rfl) rfl (by kernel_rfl) (by kernel_rfl) Tryz.underlying3 }
open Go.RowKit Go.Lib in
theorem Tryz.strings_Contains_shaped (s sub : ByteArray) (w : World) (h : w.ShapedOpen Tryz.prog) (hs : s.size < 4294967281) :
    Calls Tryz.prog 93 #[.string s,.string sub] w fun e w'=>e = .returned (.bool (Lib.contains s.data.toList sub.data.toList)) ∧ w' = w:=Any.strings_Contains_shaped Tryz.laysM144 s sub w h hs
def Tryz.laysM220_ren : Go.Shelf.Ren:=⟨fun|220=>104|219=>118|217=>135|225=>134|224=>133|267=>136|266=>143|314=>144|n=>n,fun|9=>9|4=>4|3=>3|5=>5|46=>200|146=>206|51=>205|n=>n,fun|1=>0|n=>n⟩
theorem Tryz.laysM220 : Go.Proofs.LaysM.n220 Tryz.prog Tryz.laysM220_ren:={
  mixed:=by kernel_rfl
  f217:=Tryz.func135.trans (congrArg some (by kernel_rfl))
  f219:=Tryz.func118.trans (congrArg some (by kernel_rfl))
  f220:=Tryz.func104.trans (congrArg some (by kernel_rfl))
  f224:=Tryz.func133.trans (congrArg some (by kernel_rfl))
  f225:=Tryz.func134.trans (congrArg some (by kernel_rfl))
  f266:=Tryz.func143.trans (congrArg some (by kernel_rfl))
  f267:=Tryz.func136.trans (congrArg some (by kernel_rfl))
  f314:=Tryz.func144.trans (congrArg some (by kernel_rfl))
  t3:=Tryz.underlying3
  a3:=Tryz.isAgg3
  z3:=Tryz.sizeOf3
  v3:=Tryz.zeroValue3
  t4:=Tryz.underlying4
  a4:=Tryz.isAgg4
  z4:=Tryz.sizeOf4
  v4:=Tryz.zeroValue4
  t5:=Tryz.underlying5
  a5:=Tryz.isAgg5
  z5:=Tryz.sizeOf5
  v5:=Tryz.zeroValue5
  t9:=Tryz.underlying9
  a9:=Tryz.isAgg9
  z9:=Tryz.sizeOf9
  v9:=Tryz.zeroValue9
  t46:=Tryz.underlying200
  a46:=Tryz.isAgg200
  z46:=Tryz.sizeOf200
  v46:=Tryz.zeroValue200
  t51:=Tryz.underlying205
  a51:=Tryz.isAgg205
  z51:=Tryz.sizeOf205
  v51:=Tryz.zeroValue205
  t146:=Tryz.underlying206
  a146:=Tryz.isAgg206
  z146:=Tryz.sizeOf206
  v146:=Tryz.zeroValue206
  g1:=by kernel_rfl
  i3:=by kernel_rfl
  i4:=by kernel_rfl
  i5:=by kernel_rfl
  i9:=by kernel_rfl
  i46:=by kernel_rfl
  i51:=by kernel_rfl
  i146:=by kernel_rfl
  m1:=by kernel_rfl
  s1_3:=fun w h=>Go.Proofs.cell_of_shapedOpen_int (zero:=#[.int .i64 0]) (t:=3) h (of_decide_eq_true (by kernel_rfl)) (by kernel_rfl) rfl (by kernel_rfl) (by kernel_rfl) Tryz.underlying3 }
open Go.RowKit Go.Lib in
theorem Tryz.stringslite_Cut_shaped (s sep : ByteArray) (w : World) (h : w.ShapedOpen Tryz.prog) (hs : s.size < 4294967281) :
    Calls Tryz.prog 104 #[.string s,.string sep] w fun e w'=>e = .returned (.tuple #[.string ⟨(Lib.cut s.data.toList sep.data.toList).1.toArray⟩,.string ⟨(Lib.cut s.data.toList sep.data.toList).2.1.toArray⟩,.bool (Lib.cut s.data.toList sep.data.toList).2.2]) ∧ ∃ n,w' = w.drewN n:=Any.stringslite_Cut_shaped Tryz.laysM220 s sep w h hs
def Tryz.laysM145_ren : Go.Shelf.Ren:=⟨fun|145=>81|220=>104|219=>118|217=>135|225=>134|224=>133|267=>136|266=>143|314=>144|n=>n,fun|9=>9|4=>4|59=>161|3=>3|5=>5|46=>200|146=>206|51=>205|n=>n,fun|1=>0|n=>n⟩
theorem Tryz.laysM145 : Go.Proofs.LaysM.n145 Tryz.prog Tryz.laysM145_ren:={
  mixed:=by kernel_rfl
  f145:=Tryz.func81.trans (congrArg some (by kernel_rfl))
  f217:=Tryz.func135.trans (congrArg some (by kernel_rfl))
  f219:=Tryz.func118.trans (congrArg some (by kernel_rfl))
  f220:=Tryz.func104.trans (congrArg some (by kernel_rfl))
  f224:=Tryz.func133.trans (congrArg some (by kernel_rfl))
  f225:=Tryz.func134.trans (congrArg some (by kernel_rfl))
  f266:=Tryz.func143.trans (congrArg some (by kernel_rfl))
  f267:=Tryz.func136.trans (congrArg some (by kernel_rfl))
  f314:=Tryz.func144.trans (congrArg some (by kernel_rfl))
  t3:=Tryz.underlying3
  a3:=Tryz.isAgg3
  z3:=Tryz.sizeOf3
  v3:=Tryz.zeroValue3
  t4:=Tryz.underlying4
  a4:=Tryz.isAgg4
  z4:=Tryz.sizeOf4
  v4:=Tryz.zeroValue4
  t5:=Tryz.underlying5
  a5:=Tryz.isAgg5
  z5:=Tryz.sizeOf5
  v5:=Tryz.zeroValue5
  t9:=Tryz.underlying9
  a9:=Tryz.isAgg9
  z9:=Tryz.sizeOf9
  v9:=Tryz.zeroValue9
  t46:=Tryz.underlying200
  a46:=Tryz.isAgg200
  z46:=Tryz.sizeOf200
  v46:=Tryz.zeroValue200
  t51:=Tryz.underlying205
  a51:=Tryz.isAgg205
  z51:=Tryz.sizeOf205
  v51:=Tryz.zeroValue205
  t59:=Tryz.underlying161
  a59:=Tryz.isAgg161
  z59:=Tryz.sizeOf161
  v59:=Tryz.zeroValue161
  t146:=Tryz.underlying206
  a146:=Tryz.isAgg206
  z146:=Tryz.sizeOf206
  v146:=Tryz.zeroValue206
  g1:=by kernel_rfl
  i3:=by kernel_rfl
  i4:=by kernel_rfl
  i5:=by kernel_rfl
  i9:=by kernel_rfl
  i46:=by kernel_rfl
  i51:=by kernel_rfl
  i59:=by kernel_rfl
  i146:=by kernel_rfl
  m1:=by kernel_rfl
  s1_3:=fun w h=>Go.Proofs.cell_of_shapedOpen_int (zero:=#[.int .i64 0]) (t:=3) h (of_decide_eq_true (by kernel_rfl)) (by kernel_rfl) rfl (by kernel_rfl) (by kernel_rfl) Tryz.underlying3 }
open Go.RowKit Go.Lib in
theorem Tryz.strings_Cut_shaped (s sep : ByteArray) (w : World) (h : w.ShapedOpen Tryz.prog) (hs : s.size < 4294967281) :
    Calls Tryz.prog 81 #[.string s,.string sep] w fun e w'=>e = .returned (.tuple #[.string ⟨(Lib.cut s.data.toList sep.data.toList).1.toArray⟩,.string ⟨(Lib.cut s.data.toList sep.data.toList).2.1.toArray⟩,.bool (Lib.cut s.data.toList sep.data.toList).2.2]) ∧ ∃ n,w' = w.drewN n:=Any.strings_Cut_shaped Tryz.laysM145 s sep w h hs
def Tryz.laysM138_ren : Go.Shelf.Ren:=⟨fun|138=>142|195=>148|218=>149|143=>108|219=>118|217=>135|225=>134|224=>133|267=>136|266=>143|314=>144|n=>n,fun|9=>9|3=>3|4=>4|5=>5|0=>0|46=>200|146=>206|51=>205|n=>n,fun|1=>0|n=>n⟩
theorem Tryz.laysM138 : Go.Proofs.LaysM.n138 Tryz.prog Tryz.laysM138_ren:={
  mixed:=by kernel_rfl
  f138:=Tryz.func142.trans (congrArg some (by kernel_rfl))
  f143:=Tryz.func108.trans (congrArg some (by kernel_rfl))
  f195:=Tryz.func148.trans (congrArg some (by kernel_rfl))
  f217:=Tryz.func135.trans (congrArg some (by kernel_rfl))
  f218:=Tryz.func149.trans (congrArg some (by kernel_rfl))
  f219:=Tryz.func118.trans (congrArg some (by kernel_rfl))
  f224:=Tryz.func133.trans (congrArg some (by kernel_rfl))
  f225:=Tryz.func134.trans (congrArg some (by kernel_rfl))
  f266:=Tryz.func143.trans (congrArg some (by kernel_rfl))
  f267:=Tryz.func136.trans (congrArg some (by kernel_rfl))
  f314:=Tryz.func144.trans (congrArg some (by kernel_rfl))
  t0:=Tryz.underlying0
  a0:=Tryz.isAgg0
  z0:=Tryz.sizeOf0
  v0:=Tryz.zeroValue0
  t3:=Tryz.underlying3
  a3:=Tryz.isAgg3
  z3:=Tryz.sizeOf3
  v3:=Tryz.zeroValue3
  t4:=Tryz.underlying4
  a4:=Tryz.isAgg4
  z4:=Tryz.sizeOf4
  v4:=Tryz.zeroValue4
  t5:=Tryz.underlying5
  a5:=Tryz.isAgg5
  z5:=Tryz.sizeOf5
  v5:=Tryz.zeroValue5
  t9:=Tryz.underlying9
  a9:=Tryz.isAgg9
  z9:=Tryz.sizeOf9
  v9:=Tryz.zeroValue9
  t46:=Tryz.underlying200
  a46:=Tryz.isAgg200
  z46:=Tryz.sizeOf200
  v46:=Tryz.zeroValue200
  t51:=Tryz.underlying205
  a51:=Tryz.isAgg205
  z51:=Tryz.sizeOf205
  v51:=Tryz.zeroValue205
  t146:=Tryz.underlying206
  a146:=Tryz.isAgg206
  z146:=Tryz.sizeOf206
  v146:=Tryz.zeroValue206
  g1:=by kernel_rfl
  i0:=by kernel_rfl
  i3:=by kernel_rfl
  i4:=by kernel_rfl
  i5:=by kernel_rfl
  i9:=by kernel_rfl
  i46:=by kernel_rfl
  i51:=by kernel_rfl
  i146:=by kernel_rfl
  m1:=by kernel_rfl
  s1_3:=fun w h=>Go.Proofs.cell_of_shapedOpen_int (zero:=#[.int .i64 0]) (t:=3) h (of_decide_eq_true (by kernel_rfl)) (by kernel_rfl) rfl (by kernel_rfl) (by kernel_rfl) Tryz.underlying3 }
open Go.RowKit Go.Lib in
theorem Tryz.strings_Count_shaped (s sub : ByteArray) (w : World) (h : w.ShapedOpen Tryz.prog) (hs : s.size < 4294967281) (h2 : 2 ≤ sub.size) :
    Calls Tryz.prog 142 #[.string s,.string sub] w fun e w'=>e = .returned (.int .i64 (Lib.countB s sub)) ∧ w' = w:=Any.strings_Count_shaped Tryz.laysM138 s sub w h hs h2
def Tryz.lays206_ren : Go.Shelf.Ren:=⟨fun|206=>107|n=>n,fun|9=>9|4=>4|3=>3|n=>n,fun|n=>n⟩
theorem Tryz.lays206 : Go.Proofs.Lays.n206 Tryz.prog Tryz.lays206_ren:={
  mixed:=by kernel_rfl
  f206:=Tryz.func107.trans (congrArg some (by kernel_rfl))
  t3:=Tryz.underlying3
  a3:=Tryz.isAgg3
  z3:=Tryz.sizeOf3
  v3:=Tryz.zeroValue3
  t4:=Tryz.underlying4
  a4:=Tryz.isAgg4
  z4:=Tryz.sizeOf4
  v4:=Tryz.zeroValue4
  t9:=Tryz.underlying9
  a9:=Tryz.isAgg9
  z9:=Tryz.sizeOf9
  v9:=Tryz.zeroValue9 }
open Go.RowKit Go.Lib in
theorem Tryz.stringslite_HasPrefix (s p : ByteArray) (w : World) :
    Calls Tryz.prog 107 #[.string s,.string p] w fun e w'=>e = .returned (.bool (Lib.hasPrefix s.data.toList p.data.toList)) ∧ w' = w:=Any.stringslite_HasPrefix Tryz.lays206 s p w
def Tryz.lays99_ren : Go.Shelf.Ren:=⟨fun|99=>92|206=>107|n=>n,fun|9=>9|4=>4|3=>3|n=>n,fun|n=>n⟩
theorem Tryz.lays99 : Go.Proofs.Lays.n99 Tryz.prog Tryz.lays99_ren:={
  mixed:=by kernel_rfl
  f99:=Tryz.func92.trans (congrArg some (by kernel_rfl))
  f206:=Tryz.func107.trans (congrArg some (by kernel_rfl))
  t3:=Tryz.underlying3
  a3:=Tryz.isAgg3
  z3:=Tryz.sizeOf3
  v3:=Tryz.zeroValue3
  t4:=Tryz.underlying4
  a4:=Tryz.isAgg4
  z4:=Tryz.sizeOf4
  v4:=Tryz.zeroValue4
  t9:=Tryz.underlying9
  a9:=Tryz.isAgg9
  z9:=Tryz.sizeOf9
  v9:=Tryz.zeroValue9 }
open Go.RowKit Go.Lib in
theorem Tryz.strings_HasPrefix (s p : ByteArray) (w : World) :
    Calls Tryz.prog 92 #[.string s,.string p] w fun e w'=>e = .returned (.bool (Lib.hasPrefix s.data.toList p.data.toList)) ∧ w' = w:=Any.strings_HasPrefix Tryz.lays99 s p w
def Tryz.lays208_ren : Go.Shelf.Ren:=⟨fun|208=>140|206=>107|n=>n,fun|9=>9|4=>4|3=>3|n=>n,fun|n=>n⟩
theorem Tryz.lays208 : Go.Proofs.Lays.n208 Tryz.prog Tryz.lays208_ren:={
  mixed:=by kernel_rfl
  f206:=Tryz.func107.trans (congrArg some (by kernel_rfl))
  f208:=Tryz.func140.trans (congrArg some (by kernel_rfl))
  t3:=Tryz.underlying3
  a3:=Tryz.isAgg3
  z3:=Tryz.sizeOf3
  v3:=Tryz.zeroValue3
  t4:=Tryz.underlying4
  a4:=Tryz.isAgg4
  z4:=Tryz.sizeOf4
  v4:=Tryz.zeroValue4
  t9:=Tryz.underlying9
  a9:=Tryz.isAgg9
  z9:=Tryz.sizeOf9
  v9:=Tryz.zeroValue9 }
open Go.RowKit Go.Lib in
theorem Tryz.stringslite_TrimPrefix (s p : ByteArray) (w : World) :
    Calls Tryz.prog 140 #[.string s,.string p] w fun e w'=>e = .returned (.string ⟨(Lib.trimPrefix s.data.toList p.data.toList).toArray⟩) ∧ w' = w:=Any.stringslite_TrimPrefix Tryz.lays208 s p w
def Tryz.lays101_ren : Go.Shelf.Ren:=⟨fun|101=>126|208=>140|206=>107|n=>n,fun|9=>9|4=>4|3=>3|n=>n,fun|n=>n⟩
theorem Tryz.lays101 : Go.Proofs.Lays.n101 Tryz.prog Tryz.lays101_ren:={
  mixed:=by kernel_rfl
  f101:=Tryz.func126.trans (congrArg some (by kernel_rfl))
  f206:=Tryz.func107.trans (congrArg some (by kernel_rfl))
  f208:=Tryz.func140.trans (congrArg some (by kernel_rfl))
  t3:=Tryz.underlying3
  a3:=Tryz.isAgg3
  z3:=Tryz.sizeOf3
  v3:=Tryz.zeroValue3
  t4:=Tryz.underlying4
  a4:=Tryz.isAgg4
  z4:=Tryz.sizeOf4
  v4:=Tryz.zeroValue4
  t9:=Tryz.underlying9
  a9:=Tryz.isAgg9
  z9:=Tryz.sizeOf9
  v9:=Tryz.zeroValue9 }
open Go.RowKit Go.Lib in
theorem Tryz.strings_TrimPrefix (s p : ByteArray) (w : World) :
    Calls Tryz.prog 126 #[.string s,.string p] w fun e w'=>e = .returned (.string ⟨(Lib.trimPrefix s.data.toList p.data.toList).toArray⟩) ∧ w' = w:=Any.strings_TrimPrefix Tryz.lays101 s p w
open Go.RowKit Go.Lib in
theorem Tryz.strings_Count_any (s sep : ByteArray) (m : Int) (w : World) (hs : s.size < 4294967281) (hm : w.cell? ⟨0,0,none⟩ = some (.int .i64 m)) (h1 : 1 ≤ sep.size) :
    Calls Tryz.prog 142 #[.string s,.string sep] w fun e w'=>e = .returned (.int .i64 (Lib.countB s sep)) ∧ w' = w:=Any.strings_Count_any Tryz.lays138 s sep m w hs hm h1
def Tryz.lays221_ren : Go.Shelf.Ren:=⟨fun|221=>141|268=>147|138=>142|143=>108|195=>148|197=>137|218=>149|219=>118|260=>145|217=>135|225=>134|224=>133|267=>136|266=>143|314=>144|n=>n,fun|9=>9|3=>3|31=>22|4=>4|0=>0|105=>201|21=>21|5=>5|46=>200|119=>209|139=>212|138=>211|146=>206|51=>205|n=>n,fun|1=>0|3=>1|4=>2|n=>n⟩
theorem Tryz.lays221 : Go.Proofs.Lays.n221 Tryz.prog Tryz.lays221_ren:={
  mixed:=by kernel_rfl
  f138:=Tryz.func142.trans (congrArg some (by kernel_rfl))
  f143:=Tryz.func108.trans (congrArg some (by kernel_rfl))
  f195:=Tryz.func148.trans (congrArg some (by kernel_rfl))
  f197:=Tryz.func137.trans (congrArg some (by kernel_rfl))
  f217:=Tryz.func135.trans (congrArg some (by kernel_rfl))
  f218:=Tryz.func149.trans (congrArg some (by kernel_rfl))
  f219:=Tryz.func118.trans (congrArg some (by kernel_rfl))
  f221:=Tryz.func141.trans (congrArg some (by kernel_rfl))
  f224:=Tryz.func133.trans (congrArg some (by kernel_rfl))
  f225:=Tryz.func134.trans (congrArg some (by kernel_rfl))
  f260:=Tryz.func145.trans (congrArg some (by kernel_rfl))
  f266:=Tryz.func143.trans (congrArg some (by kernel_rfl))
  f267:=Tryz.func136.trans (congrArg some (by kernel_rfl))
  f268:=Tryz.func147.trans (congrArg some (by kernel_rfl))
  f314:=Tryz.func144.trans (congrArg some (by kernel_rfl))
  t0:=Tryz.underlying0
  a0:=Tryz.isAgg0
  z0:=Tryz.sizeOf0
  v0:=Tryz.zeroValue0
  t3:=Tryz.underlying3
  a3:=Tryz.isAgg3
  z3:=Tryz.sizeOf3
  v3:=Tryz.zeroValue3
  t4:=Tryz.underlying4
  a4:=Tryz.isAgg4
  z4:=Tryz.sizeOf4
  v4:=Tryz.zeroValue4
  t5:=Tryz.underlying5
  a5:=Tryz.isAgg5
  z5:=Tryz.sizeOf5
  v5:=Tryz.zeroValue5
  t9:=Tryz.underlying9
  a9:=Tryz.isAgg9
  z9:=Tryz.sizeOf9
  v9:=Tryz.zeroValue9
  t21:=Tryz.underlying21
  a21:=Tryz.isAgg21
  z21:=Tryz.sizeOf21
  v21:=Tryz.zeroValue21
  t31:=Tryz.underlying22
  a31:=Tryz.isAgg22
  z31:=Tryz.sizeOf22
  v31:=Tryz.zeroValue22
  t46:=Tryz.underlying200
  a46:=Tryz.isAgg200
  z46:=Tryz.sizeOf200
  v46:=Tryz.zeroValue200
  t51:=Tryz.underlying205
  a51:=Tryz.isAgg205
  z51:=Tryz.sizeOf205
  v51:=Tryz.zeroValue205
  t105:=Tryz.underlying201
  a105:=Tryz.isAgg201
  z105:=Tryz.sizeOf201
  v105:=Tryz.zeroValue201
  t119:=Tryz.underlying209
  a119:=Tryz.isAgg209
  z119:=Tryz.sizeOf209
  t138:=Tryz.underlying211
  a138:=Tryz.isAgg211
  z138:=Tryz.sizeOf211
  v138:=Tryz.zeroValue211
  t139:=Tryz.underlying212
  a139:=Tryz.isAgg212
  z139:=Tryz.sizeOf212
  v139:=Tryz.zeroValue212
  t146:=Tryz.underlying206
  a146:=Tryz.isAgg206
  z146:=Tryz.sizeOf206
  v146:=Tryz.zeroValue206
  g1:=by kernel_rfl
  g3:=by kernel_rfl
  g4:=by kernel_rfl }
open Go.RowKit Go.Lib in
theorem Tryz.strings_genSplit (s sep : ByteArray) (sv : Nat) (n : Int) (N : Nat) (m : Int) (w : World) (hs : s.size < 4294967281) (hm : w.cell? ⟨0,0,none⟩ = some (.int .i64 m)) (h1 : 1 ≤ sep.size) (hsv : sv ≤ sep.size) (hn0 : n ≠ 0) (hn63 : n ≤ 9223372036854775807) (hN : (N : Int) = min (if n < 0 then (Lib.countB s sep : Int) + 1 else n) ((s.size : Int) + 1)) :
    Calls Tryz.prog 141 #[.string s,.string sep,.int .i64 sv,.int .i64 n] w fun e w' =>
      e = .returned (.slice (some ⟨w.heap.size,0,none⟩) (Lib.splitB sep sv (N - 1) s).length N) ∧ w' = w.alloc (.cells (Lib.cellsOf (Lib.splitB sep sv (N - 1) s) N) 9):=Any.strings_genSplit Tryz.lays221 (by kernel_rfl) s sep sv n N m w hs hm h1 hsv hn0 hn63 hN
def Tryz.lays146_ren : Go.Shelf.Ren:=⟨fun|146=>127|221=>141|268=>147|138=>142|143=>108|195=>148|197=>137|218=>149|219=>118|260=>145|217=>135|225=>134|224=>133|267=>136|266=>143|314=>144|n=>n,fun|9=>9|31=>22|3=>3|4=>4|0=>0|105=>201|21=>21|5=>5|46=>200|119=>209|139=>212|138=>211|146=>206|51=>205|n=>n,fun|1=>0|3=>1|4=>2|n=>n⟩
theorem Tryz.lays146 : Go.Proofs.Lays.n146 Tryz.prog Tryz.lays146_ren:={
  mixed:=by kernel_rfl
  f138:=Tryz.func142.trans (congrArg some (by kernel_rfl))
  f143:=Tryz.func108.trans (congrArg some (by kernel_rfl))
  f146:=Tryz.func127.trans (congrArg some (by kernel_rfl))
  f195:=Tryz.func148.trans (congrArg some (by kernel_rfl))
  f197:=Tryz.func137.trans (congrArg some (by kernel_rfl))
  f217:=Tryz.func135.trans (congrArg some (by kernel_rfl))
  f218:=Tryz.func149.trans (congrArg some (by kernel_rfl))
  f219:=Tryz.func118.trans (congrArg some (by kernel_rfl))
  f221:=Tryz.func141.trans (congrArg some (by kernel_rfl))
  f224:=Tryz.func133.trans (congrArg some (by kernel_rfl))
  f225:=Tryz.func134.trans (congrArg some (by kernel_rfl))
  f260:=Tryz.func145.trans (congrArg some (by kernel_rfl))
  f266:=Tryz.func143.trans (congrArg some (by kernel_rfl))
  f267:=Tryz.func136.trans (congrArg some (by kernel_rfl))
  f268:=Tryz.func147.trans (congrArg some (by kernel_rfl))
  f314:=Tryz.func144.trans (congrArg some (by kernel_rfl))
  t0:=Tryz.underlying0
  a0:=Tryz.isAgg0
  z0:=Tryz.sizeOf0
  v0:=Tryz.zeroValue0
  t3:=Tryz.underlying3
  a3:=Tryz.isAgg3
  z3:=Tryz.sizeOf3
  v3:=Tryz.zeroValue3
  t4:=Tryz.underlying4
  a4:=Tryz.isAgg4
  z4:=Tryz.sizeOf4
  v4:=Tryz.zeroValue4
  t5:=Tryz.underlying5
  a5:=Tryz.isAgg5
  z5:=Tryz.sizeOf5
  v5:=Tryz.zeroValue5
  t9:=Tryz.underlying9
  a9:=Tryz.isAgg9
  z9:=Tryz.sizeOf9
  v9:=Tryz.zeroValue9
  t21:=Tryz.underlying21
  a21:=Tryz.isAgg21
  z21:=Tryz.sizeOf21
  v21:=Tryz.zeroValue21
  t31:=Tryz.underlying22
  a31:=Tryz.isAgg22
  z31:=Tryz.sizeOf22
  v31:=Tryz.zeroValue22
  t46:=Tryz.underlying200
  a46:=Tryz.isAgg200
  z46:=Tryz.sizeOf200
  v46:=Tryz.zeroValue200
  t51:=Tryz.underlying205
  a51:=Tryz.isAgg205
  z51:=Tryz.sizeOf205
  v51:=Tryz.zeroValue205
  t105:=Tryz.underlying201
  a105:=Tryz.isAgg201
  z105:=Tryz.sizeOf201
  v105:=Tryz.zeroValue201
  t119:=Tryz.underlying209
  a119:=Tryz.isAgg209
  z119:=Tryz.sizeOf209
  t138:=Tryz.underlying211
  a138:=Tryz.isAgg211
  z138:=Tryz.sizeOf211
  v138:=Tryz.zeroValue211
  t139:=Tryz.underlying212
  a139:=Tryz.isAgg212
  z139:=Tryz.sizeOf212
  v139:=Tryz.zeroValue212
  t146:=Tryz.underlying206
  a146:=Tryz.isAgg206
  z146:=Tryz.sizeOf206
  v146:=Tryz.zeroValue206
  g1:=by kernel_rfl
  g3:=by kernel_rfl
  g4:=by kernel_rfl }
open Go.RowKit Go.Lib in
theorem Tryz.strings_Split (s sep : ByteArray) (m : Int) (w : World) (hs : s.size < 4294967281) (hm : w.cell? ⟨0,0,none⟩ = some (.int .i64 m)) (h1 : 1 ≤ sep.size) :
    Calls Tryz.prog 127 #[.string s,.string sep] w fun e w' =>
      e = .returned (.slice (some ⟨w.heap.size,0,none⟩) (Lib.countB s sep + 1) (Lib.countB s sep + 1)) ∧ w' = w.alloc (.cells ((Lib.splitB sep 0 (Lib.countB s sep) s).map Value.string).toArray 9):=Any.strings_Split Tryz.lays146 (by kernel_rfl) s sep m w hs hm h1
def Tryz.lays154_ren : Go.Shelf.Ren:=⟨fun|154=>129|138=>142|165=>101|143=>108|166=>47|197=>137|169=>49|195=>148|218=>149|240=>75|241=>113|219=>118|260=>145|276=>98|277=>130|217=>135|225=>134|224=>133|267=>136|266=>143|314=>144|n=>n,fun|9=>9|3=>3|4=>4|72=>119|0=>0|76=>56|105=>201|21=>21|5=>5|70=>116|20=>20|37=>117|75=>26|127=>160|164=>174|46=>200|119=>209|139=>212|138=>211|146=>206|51=>205|80=>122|n=>n,fun|1=>0|3=>1|4=>2|n=>n⟩
theorem Tryz.lays154 : Go.Proofs.Lays.n154 Tryz.prog Tryz.lays154_ren:={
  mixed:=by kernel_rfl
  f138:=Tryz.func142.trans (congrArg some (by kernel_rfl))
  f143:=Tryz.func108.trans (congrArg some (by kernel_rfl))
  f154:=Tryz.func129.trans (congrArg some (by kernel_rfl))
  f165:=Tryz.func101.trans (congrArg some (by kernel_rfl))
  f166:=Tryz.func47.trans (congrArg some (by kernel_rfl))
  f169:=Tryz.func49.trans (congrArg some (by kernel_rfl))
  f195:=Tryz.func148.trans (congrArg some (by kernel_rfl))
  f197:=Tryz.func137.trans (congrArg some (by kernel_rfl))
  f217:=Tryz.func135.trans (congrArg some (by kernel_rfl))
  f218:=Tryz.func149.trans (congrArg some (by kernel_rfl))
  f219:=Tryz.func118.trans (congrArg some (by kernel_rfl))
  f224:=Tryz.func133.trans (congrArg some (by kernel_rfl))
  f225:=Tryz.func134.trans (congrArg some (by kernel_rfl))
  f240:=Tryz.func75.trans (congrArg some (by kernel_rfl))
  f241:=Tryz.func113.trans (congrArg some (by kernel_rfl))
  f260:=Tryz.func145.trans (congrArg some (by kernel_rfl))
  f266:=Tryz.func143.trans (congrArg some (by kernel_rfl))
  f267:=Tryz.func136.trans (congrArg some (by kernel_rfl))
  f276:=Tryz.func98.trans (congrArg some (by kernel_rfl))
  f277:=Tryz.func130.trans (congrArg some (by kernel_rfl))
  f314:=Tryz.func144.trans (congrArg some (by kernel_rfl))
  t0:=Tryz.underlying0
  a0:=Tryz.isAgg0
  z0:=Tryz.sizeOf0
  v0:=Tryz.zeroValue0
  t3:=Tryz.underlying3
  a3:=Tryz.isAgg3
  z3:=Tryz.sizeOf3
  v3:=Tryz.zeroValue3
  t4:=Tryz.underlying4
  a4:=Tryz.isAgg4
  z4:=Tryz.sizeOf4
  v4:=Tryz.zeroValue4
  t5:=Tryz.underlying5
  a5:=Tryz.isAgg5
  z5:=Tryz.sizeOf5
  v5:=Tryz.zeroValue5
  t9:=Tryz.underlying9
  a9:=Tryz.isAgg9
  z9:=Tryz.sizeOf9
  v9:=Tryz.zeroValue9
  t20:=Tryz.underlying20
  a20:=Tryz.isAgg20
  z20:=Tryz.sizeOf20
  v20:=Tryz.zeroValue20
  t21:=Tryz.underlying21
  a21:=Tryz.isAgg21
  z21:=Tryz.sizeOf21
  v21:=Tryz.zeroValue21
  t37:=Tryz.underlying117
  a37:=Tryz.isAgg117
  z37:=Tryz.sizeOf117
  v37:=Tryz.zeroValue117
  t46:=Tryz.underlying200
  a46:=Tryz.isAgg200
  z46:=Tryz.sizeOf200
  v46:=Tryz.zeroValue200
  t51:=Tryz.underlying205
  a51:=Tryz.isAgg205
  z51:=Tryz.sizeOf205
  v51:=Tryz.zeroValue205
  t70:=Tryz.underlying116
  a70:=Tryz.isAgg116
  z70:=Tryz.sizeOf116
  v70:=Tryz.zeroValue116
  t72:=Tryz.underlying119
  a72:=Tryz.isAgg119
  z72:=Tryz.sizeOf119
  v72:=Tryz.zeroValue119
  t75:=Tryz.underlying26
  a75:=Tryz.isAgg26
  z75:=Tryz.sizeOf26
  v75:=Tryz.zeroValue26
  t76:=Tryz.underlying56
  a76:=Tryz.isAgg56
  z76:=Tryz.sizeOf56
  v76:=Tryz.zeroValue56
  t105:=Tryz.underlying201
  a105:=Tryz.isAgg201
  z105:=Tryz.sizeOf201
  v105:=Tryz.zeroValue201
  t119:=Tryz.underlying209
  a119:=Tryz.isAgg209
  z119:=Tryz.sizeOf209
  t127:=Tryz.underlying160
  a127:=Tryz.isAgg160
  z127:=Tryz.sizeOf160
  v127:=Tryz.zeroValue160
  t138:=Tryz.underlying211
  a138:=Tryz.isAgg211
  z138:=Tryz.sizeOf211
  v138:=Tryz.zeroValue211
  t139:=Tryz.underlying212
  a139:=Tryz.isAgg212
  z139:=Tryz.sizeOf212
  v139:=Tryz.zeroValue212
  t146:=Tryz.underlying206
  a146:=Tryz.isAgg206
  z146:=Tryz.sizeOf206
  v146:=Tryz.zeroValue206
  t164:=Tryz.underlying174
  a164:=Tryz.isAgg174
  z164:=Tryz.sizeOf174
  v164:=Tryz.zeroValue174
  g1:=by kernel_rfl
  g3:=by kernel_rfl
  g4:=by kernel_rfl }
theorem Tryz.Builder_Extra_154 : Builder.Extra Tryz.prog Tryz.lays154_ren:={
  sizeBuilder:=by kernel_rfl
  liesBuilder:=by kernel_rfl
  t5:=Tryz.underlying5
  a5:=Tryz.isAgg5
  z5:=Tryz.sizeOf5
  v5:=Tryz.zeroValue5
  infoByte:=by kernel_rfl
  cellsByte:=by kernel_rfl
  sizeByte:=by kernel_rfl
  neB5:=by decide }
open Go.RowKit Go.Lib in
theorem Tryz.strings_Replace_some (s old new : ByteArray) (n : Int) (m : Int) (w : World) (hs : s.size < 4294967281) (hm : w.cell? ⟨0,0,none⟩ = some (.int .i64 m)) (h1 : 1 ≤ old.size) (hne : old ≠ new) (hn0 : n ≠ 0) (hc0 : Lib.countB s old ≠ 0) (hlen : s.size + Lib.countB s old * new.size ≤ 140737488355328) :
    Calls Tryz.prog 129 #[.string s,.string old,.string new,.int .i64 n] w fun e w' =>
      e = .returned (.string ⟨(Lib.replaceK old.data.toList new.data.toList (Lib.replaceNum s.data.toList old.data.toList n) s.data.toList).toArray⟩) ∧ Below w.heap.size w w':=Any.strings_Replace_some Tryz.lays154 Tryz.Builder_Extra_154 s old new n m w hs hm h1 hne hn0 hc0 hlen
open Go.RowKit Go.Lib in
theorem Tryz.strings_Replace_none (s old new : ByteArray) (n : Int) (w : World) (h : old = new ∨ n = 0) :
    Calls Tryz.prog 129 #[.string s,.string old,.string new,.int .i64 n] w fun e w'=>e = .returned (.string s) ∧ w' = w:=Any.strings_Replace_none Tryz.lays154 s old new n w h
open Go.RowKit Go.Lib in
theorem Tryz.strings_Replace_absent (s old new : ByteArray) (n : Int) (m : Int) (w : World) (hs : s.size < 4294967281) (hm : w.cell? ⟨0,0,none⟩ = some (.int .i64 m)) (h1 : 1 ≤ old.size) (hne : old ≠ new) (hn0 : n ≠ 0) (hc0 : Lib.countB s old = 0) :
    Calls Tryz.prog 129 #[.string s,.string old,.string new,.int .i64 n] w fun e w'=>e = .returned (.string s) ∧ w' = w:=Any.strings_Replace_absent Tryz.lays154 s old new n m w hs hm h1 hne hn0 hc0
open Go.RowKit Go.Lib in
theorem Tryz.strings_Replace (s old new : ByteArray) (n : Int) (m : Int) (w : World) (hs : s.size < 4294967281) (hm : w.cell? ⟨0,0,none⟩ = some (.int .i64 m)) (h1 : 1 ≤ old.size) (hlen : s.size + Lib.countB s old * new.size ≤ 140737488355328) :
    Calls Tryz.prog 129 #[.string s,.string old,.string new,.int .i64 n] w fun e w' =>
      e = .returned (.string ⟨(Lib.replace s.data.toList old.data.toList new.data.toList n).toArray⟩) ∧ Below w.heap.size w w':=Any.strings_Replace Tryz.lays154 Tryz.Builder_Extra_154 s old new n m w hs hm h1 hlen
def Tryz.lays155_ren : Go.Shelf.Ren:=⟨fun|155=>112|154=>129|138=>142|165=>101|143=>108|166=>47|197=>137|169=>49|195=>148|218=>149|240=>75|241=>113|219=>118|260=>145|276=>98|277=>130|217=>135|225=>134|224=>133|267=>136|266=>143|314=>144|n=>n,fun|9=>9|3=>3|4=>4|72=>119|0=>0|76=>56|105=>201|21=>21|5=>5|70=>116|20=>20|37=>117|75=>26|127=>160|164=>174|46=>200|119=>209|139=>212|138=>211|146=>206|51=>205|80=>122|n=>n,fun|1=>0|3=>1|4=>2|n=>n⟩
theorem Tryz.lays155 : Go.Proofs.Lays.n155 Tryz.prog Tryz.lays155_ren:={
  mixed:=by kernel_rfl
  f138:=Tryz.func142.trans (congrArg some (by kernel_rfl))
  f143:=Tryz.func108.trans (congrArg some (by kernel_rfl))
  f154:=Tryz.func129.trans (congrArg some (by kernel_rfl))
  f155:=Tryz.func112.trans (congrArg some (by kernel_rfl))
  f165:=Tryz.func101.trans (congrArg some (by kernel_rfl))
  f166:=Tryz.func47.trans (congrArg some (by kernel_rfl))
  f169:=Tryz.func49.trans (congrArg some (by kernel_rfl))
  f195:=Tryz.func148.trans (congrArg some (by kernel_rfl))
  f197:=Tryz.func137.trans (congrArg some (by kernel_rfl))
  f217:=Tryz.func135.trans (congrArg some (by kernel_rfl))
  f218:=Tryz.func149.trans (congrArg some (by kernel_rfl))
  f219:=Tryz.func118.trans (congrArg some (by kernel_rfl))
  f224:=Tryz.func133.trans (congrArg some (by kernel_rfl))
  f225:=Tryz.func134.trans (congrArg some (by kernel_rfl))
  f240:=Tryz.func75.trans (congrArg some (by kernel_rfl))
  f241:=Tryz.func113.trans (congrArg some (by kernel_rfl))
  f260:=Tryz.func145.trans (congrArg some (by kernel_rfl))
  f266:=Tryz.func143.trans (congrArg some (by kernel_rfl))
  f267:=Tryz.func136.trans (congrArg some (by kernel_rfl))
  f276:=Tryz.func98.trans (congrArg some (by kernel_rfl))
  f277:=Tryz.func130.trans (congrArg some (by kernel_rfl))
  f314:=Tryz.func144.trans (congrArg some (by kernel_rfl))
  t0:=Tryz.underlying0
  a0:=Tryz.isAgg0
  z0:=Tryz.sizeOf0
  v0:=Tryz.zeroValue0
  t3:=Tryz.underlying3
  a3:=Tryz.isAgg3
  z3:=Tryz.sizeOf3
  v3:=Tryz.zeroValue3
  t4:=Tryz.underlying4
  a4:=Tryz.isAgg4
  z4:=Tryz.sizeOf4
  v4:=Tryz.zeroValue4
  t5:=Tryz.underlying5
  a5:=Tryz.isAgg5
  z5:=Tryz.sizeOf5
  v5:=Tryz.zeroValue5
  t9:=Tryz.underlying9
  a9:=Tryz.isAgg9
  z9:=Tryz.sizeOf9
  v9:=Tryz.zeroValue9
  t20:=Tryz.underlying20
  a20:=Tryz.isAgg20
  z20:=Tryz.sizeOf20
  v20:=Tryz.zeroValue20
  t21:=Tryz.underlying21
  a21:=Tryz.isAgg21
  z21:=Tryz.sizeOf21
  v21:=Tryz.zeroValue21
  t37:=Tryz.underlying117
  a37:=Tryz.isAgg117
  z37:=Tryz.sizeOf117
  v37:=Tryz.zeroValue117
  t46:=Tryz.underlying200
  a46:=Tryz.isAgg200
  z46:=Tryz.sizeOf200
  v46:=Tryz.zeroValue200
  t51:=Tryz.underlying205
  a51:=Tryz.isAgg205
  z51:=Tryz.sizeOf205
  v51:=Tryz.zeroValue205
  t70:=Tryz.underlying116
  a70:=Tryz.isAgg116
  z70:=Tryz.sizeOf116
  v70:=Tryz.zeroValue116
  t72:=Tryz.underlying119
  a72:=Tryz.isAgg119
  z72:=Tryz.sizeOf119
  v72:=Tryz.zeroValue119
  t75:=Tryz.underlying26
  a75:=Tryz.isAgg26
  z75:=Tryz.sizeOf26
  v75:=Tryz.zeroValue26
  t76:=Tryz.underlying56
  a76:=Tryz.isAgg56
  z76:=Tryz.sizeOf56
  v76:=Tryz.zeroValue56
  t105:=Tryz.underlying201
  a105:=Tryz.isAgg201
  z105:=Tryz.sizeOf201
  v105:=Tryz.zeroValue201
  t119:=Tryz.underlying209
  a119:=Tryz.isAgg209
  z119:=Tryz.sizeOf209
  t127:=Tryz.underlying160
  a127:=Tryz.isAgg160
  z127:=Tryz.sizeOf160
  v127:=Tryz.zeroValue160
  t138:=Tryz.underlying211
  a138:=Tryz.isAgg211
  z138:=Tryz.sizeOf211
  v138:=Tryz.zeroValue211
  t139:=Tryz.underlying212
  a139:=Tryz.isAgg212
  z139:=Tryz.sizeOf212
  v139:=Tryz.zeroValue212
  t146:=Tryz.underlying206
  a146:=Tryz.isAgg206
  z146:=Tryz.sizeOf206
  v146:=Tryz.zeroValue206
  t164:=Tryz.underlying174
  a164:=Tryz.isAgg174
  z164:=Tryz.sizeOf174
  v164:=Tryz.zeroValue174
  g1:=by kernel_rfl
  g3:=by kernel_rfl
  g4:=by kernel_rfl }
theorem Tryz.Builder_Extra_155 : Builder.Extra Tryz.prog Tryz.lays155_ren:={
  sizeBuilder:=by kernel_rfl
  liesBuilder:=by kernel_rfl
  t5:=Tryz.underlying5
  a5:=Tryz.isAgg5
  z5:=Tryz.sizeOf5
  v5:=Tryz.zeroValue5
  infoByte:=by kernel_rfl
  cellsByte:=by kernel_rfl
  sizeByte:=by kernel_rfl
  neB5:=by decide }
open Go.RowKit Go.Lib in
theorem Tryz.strings_ReplaceAll (s old new : ByteArray) (m : Int) (w : World) (hs : s.size < 4294967281) (hm : w.cell? ⟨0,0,none⟩ = some (.int .i64 m)) (h1 : 1 ≤ old.size) (hlen : s.size + Lib.countB s old * new.size ≤ 140737488355328) :
    Calls Tryz.prog 112 #[.string s,.string old,.string new] w fun e w' =>
      e = .returned (.string ⟨(Lib.replaceAll s.data.toList old.data.toList new.data.toList).toArray⟩) ∧ Below w.heap.size w w':=Any.strings_ReplaceAll Tryz.lays155 Tryz.Builder_Extra_155 s old new m w hs hm h1 hlen
def Tryz.laysM146_ren : Go.Shelf.Ren:=⟨fun|146=>127|221=>141|268=>147|138=>142|143=>108|195=>148|197=>137|218=>149|219=>118|260=>145|217=>135|225=>134|224=>133|267=>136|266=>143|314=>144|n=>n,fun|9=>9|31=>22|3=>3|4=>4|0=>0|105=>201|21=>21|5=>5|46=>200|119=>209|139=>212|138=>211|146=>206|51=>205|n=>n,fun|1=>0|3=>1|4=>2|n=>n⟩
theorem Tryz.laysM146 : Go.Proofs.LaysM.n146 Tryz.prog Tryz.laysM146_ren:={
  mixed:=by kernel_rfl
  f138:=Tryz.func142.trans (congrArg some (by kernel_rfl))
  f143:=Tryz.func108.trans (congrArg some (by kernel_rfl))
  f146:=Tryz.func127.trans (congrArg some (by kernel_rfl))
  f195:=Tryz.func148.trans (congrArg some (by kernel_rfl))
  f197:=Tryz.func137.trans (congrArg some (by kernel_rfl))
  f217:=Tryz.func135.trans (congrArg some (by kernel_rfl))
  f218:=Tryz.func149.trans (congrArg some (by kernel_rfl))
  f219:=Tryz.func118.trans (congrArg some (by kernel_rfl))
  f221:=Tryz.func141.trans (congrArg some (by kernel_rfl))
  f224:=Tryz.func133.trans (congrArg some (by kernel_rfl))
  f225:=Tryz.func134.trans (congrArg some (by kernel_rfl))
  f260:=Tryz.func145.trans (congrArg some (by kernel_rfl))
  f266:=Tryz.func143.trans (congrArg some (by kernel_rfl))
  f267:=Tryz.func136.trans (congrArg some (by kernel_rfl))
  f268:=Tryz.func147.trans (congrArg some (by kernel_rfl))
  f314:=Tryz.func144.trans (congrArg some (by kernel_rfl))
  t0:=Tryz.underlying0
  a0:=Tryz.isAgg0
  z0:=Tryz.sizeOf0
  v0:=Tryz.zeroValue0
  t3:=Tryz.underlying3
  a3:=Tryz.isAgg3
  z3:=Tryz.sizeOf3
  v3:=Tryz.zeroValue3
  t4:=Tryz.underlying4
  a4:=Tryz.isAgg4
  z4:=Tryz.sizeOf4
  v4:=Tryz.zeroValue4
  t5:=Tryz.underlying5
  a5:=Tryz.isAgg5
  z5:=Tryz.sizeOf5
  v5:=Tryz.zeroValue5
  t9:=Tryz.underlying9
  a9:=Tryz.isAgg9
  z9:=Tryz.sizeOf9
  v9:=Tryz.zeroValue9
  t21:=Tryz.underlying21
  a21:=Tryz.isAgg21
  z21:=Tryz.sizeOf21
  v21:=Tryz.zeroValue21
  t31:=Tryz.underlying22
  a31:=Tryz.isAgg22
  z31:=Tryz.sizeOf22
  v31:=Tryz.zeroValue22
  t46:=Tryz.underlying200
  a46:=Tryz.isAgg200
  z46:=Tryz.sizeOf200
  v46:=Tryz.zeroValue200
  t51:=Tryz.underlying205
  a51:=Tryz.isAgg205
  z51:=Tryz.sizeOf205
  v51:=Tryz.zeroValue205
  t105:=Tryz.underlying201
  a105:=Tryz.isAgg201
  z105:=Tryz.sizeOf201
  v105:=Tryz.zeroValue201
  t119:=Tryz.underlying209
  a119:=Tryz.isAgg209
  z119:=Tryz.sizeOf209
  t138:=Tryz.underlying211
  a138:=Tryz.isAgg211
  z138:=Tryz.sizeOf211
  v138:=Tryz.zeroValue211
  t139:=Tryz.underlying212
  a139:=Tryz.isAgg212
  z139:=Tryz.sizeOf212
  v139:=Tryz.zeroValue212
  t146:=Tryz.underlying206
  a146:=Tryz.isAgg206
  z146:=Tryz.sizeOf206
  v146:=Tryz.zeroValue206
  g1:=by kernel_rfl
  g3:=by kernel_rfl
  g4:=by kernel_rfl
  i0:=by kernel_rfl
  i3:=by kernel_rfl
  i4:=by kernel_rfl
  i5:=by kernel_rfl
  i9:=by kernel_rfl
  i21:=by kernel_rfl
  i31:=by kernel_rfl
  i46:=by kernel_rfl
  i51:=by kernel_rfl
  i105:=by kernel_rfl
  i138:=by kernel_rfl
  i139:=by kernel_rfl
  i146:=by kernel_rfl
  m1:=by kernel_rfl
  s1_3:=fun w h=>Go.Proofs.cell_of_shapedOpen_int (zero:=#[.int .i64 0]) (t:=3) h (of_decide_eq_true (by kernel_rfl)) (by kernel_rfl) rfl (by kernel_rfl) (by kernel_rfl) Tryz.underlying3
  m3:=by kernel_rfl
  m4:=by kernel_rfl }
open Go.RowKit Go.Lib in
theorem Tryz.strings_Split_shaped (s sep : ByteArray) (w : World) (h : w.ShapedOpen Tryz.prog) (hs : s.size < 4294967281) (h1 : 1 ≤ sep.size) :
    Calls Tryz.prog 127 #[.string s,.string sep] w fun e w' =>
      e = .returned (.slice (some ⟨w.heap.size,0,none⟩) (Lib.countB s sep + 1) (Lib.countB s sep + 1)) ∧ w' = w.alloc (.cells ((Lib.splitB sep 0 (Lib.countB s sep) s).map Value.string).toArray 9):=Any.strings_Split_shaped Tryz.laysM146 s sep w h hs h1
def Tryz.laysM154_ren : Go.Shelf.Ren:=⟨fun|154=>129|138=>142|165=>101|143=>108|166=>47|197=>137|169=>49|195=>148|218=>149|240=>75|241=>113|219=>118|260=>145|276=>98|277=>130|217=>135|225=>134|224=>133|267=>136|266=>143|314=>144|n=>n,fun|9=>9|3=>3|4=>4|72=>119|0=>0|76=>56|105=>201|21=>21|5=>5|70=>116|20=>20|37=>117|75=>26|127=>160|164=>174|46=>200|119=>209|139=>212|138=>211|146=>206|51=>205|80=>122|n=>n,fun|1=>0|3=>1|4=>2|n=>n⟩
theorem Tryz.laysM154 : Go.Proofs.LaysM.n154 Tryz.prog Tryz.laysM154_ren:={
  mixed:=by kernel_rfl
  f138:=Tryz.func142.trans (congrArg some (by kernel_rfl))
  f143:=Tryz.func108.trans (congrArg some (by kernel_rfl))
  f154:=Tryz.func129.trans (congrArg some (by kernel_rfl))
  f165:=Tryz.func101.trans (congrArg some (by kernel_rfl))
  f166:=Tryz.func47.trans (congrArg some (by kernel_rfl))
  f169:=Tryz.func49.trans (congrArg some (by kernel_rfl))
  f195:=Tryz.func148.trans (congrArg some (by kernel_rfl))
  f197:=Tryz.func137.trans (congrArg some (by kernel_rfl))
  f217:=Tryz.func135.trans (congrArg some (by kernel_rfl))
  f218:=Tryz.func149.trans (congrArg some (by kernel_rfl))
  f219:=Tryz.func118.trans (congrArg some (by kernel_rfl))
  f224:=Tryz.func133.trans (congrArg some (by kernel_rfl))
  f225:=Tryz.func134.trans (congrArg some (by kernel_rfl))
  f240:=Tryz.func75.trans (congrArg some (by kernel_rfl))
  f241:=Tryz.func113.trans (congrArg some (by kernel_rfl))
  f260:=Tryz.func145.trans (congrArg some (by kernel_rfl))
  f266:=Tryz.func143.trans (congrArg some (by kernel_rfl))
  f267:=Tryz.func136.trans (congrArg some (by kernel_rfl))
  f276:=Tryz.func98.trans (congrArg some (by kernel_rfl))
  f277:=Tryz.func130.trans (congrArg some (by kernel_rfl))
  f314:=Tryz.func144.trans (congrArg some (by kernel_rfl))
  t0:=Tryz.underlying0
  a0:=Tryz.isAgg0
  z0:=Tryz.sizeOf0
  v0:=Tryz.zeroValue0
  t3:=Tryz.underlying3
  a3:=Tryz.isAgg3
  z3:=Tryz.sizeOf3
  v3:=Tryz.zeroValue3
  t4:=Tryz.underlying4
  a4:=Tryz.isAgg4
  z4:=Tryz.sizeOf4
  v4:=Tryz.zeroValue4
  t5:=Tryz.underlying5
  a5:=Tryz.isAgg5
  z5:=Tryz.sizeOf5
  v5:=Tryz.zeroValue5
  t9:=Tryz.underlying9
  a9:=Tryz.isAgg9
  z9:=Tryz.sizeOf9
  v9:=Tryz.zeroValue9
  t20:=Tryz.underlying20
  a20:=Tryz.isAgg20
  z20:=Tryz.sizeOf20
  v20:=Tryz.zeroValue20
  t21:=Tryz.underlying21
  a21:=Tryz.isAgg21
  z21:=Tryz.sizeOf21
  v21:=Tryz.zeroValue21
  t37:=Tryz.underlying117
  a37:=Tryz.isAgg117
  z37:=Tryz.sizeOf117
  v37:=Tryz.zeroValue117
  t46:=Tryz.underlying200
  a46:=Tryz.isAgg200
  z46:=Tryz.sizeOf200
  v46:=Tryz.zeroValue200
  t51:=Tryz.underlying205
  a51:=Tryz.isAgg205
  z51:=Tryz.sizeOf205
  v51:=Tryz.zeroValue205
  t70:=Tryz.underlying116
  a70:=Tryz.isAgg116
  z70:=Tryz.sizeOf116
  v70:=Tryz.zeroValue116
  t72:=Tryz.underlying119
  a72:=Tryz.isAgg119
  z72:=Tryz.sizeOf119
  v72:=Tryz.zeroValue119
  t75:=Tryz.underlying26
  a75:=Tryz.isAgg26
  z75:=Tryz.sizeOf26
  v75:=Tryz.zeroValue26
  t76:=Tryz.underlying56
  a76:=Tryz.isAgg56
  z76:=Tryz.sizeOf56
  v76:=Tryz.zeroValue56
  t105:=Tryz.underlying201
  a105:=Tryz.isAgg201
  z105:=Tryz.sizeOf201
  v105:=Tryz.zeroValue201
  t119:=Tryz.underlying209
  a119:=Tryz.isAgg209
  z119:=Tryz.sizeOf209
  t127:=Tryz.underlying160
  a127:=Tryz.isAgg160
  z127:=Tryz.sizeOf160
  v127:=Tryz.zeroValue160
  t138:=Tryz.underlying211
  a138:=Tryz.isAgg211
  z138:=Tryz.sizeOf211
  v138:=Tryz.zeroValue211
  t139:=Tryz.underlying212
  a139:=Tryz.isAgg212
  z139:=Tryz.sizeOf212
  v139:=Tryz.zeroValue212
  t146:=Tryz.underlying206
  a146:=Tryz.isAgg206
  z146:=Tryz.sizeOf206
  v146:=Tryz.zeroValue206
  t164:=Tryz.underlying174
  a164:=Tryz.isAgg174
  z164:=Tryz.sizeOf174
  v164:=Tryz.zeroValue174
  g1:=by kernel_rfl
  g3:=by kernel_rfl
  g4:=by kernel_rfl
  t80:=Tryz.underlying122
  a80:=Tryz.isAgg122
  z80:=Tryz.sizeOf122
  v80:=Tryz.zeroValue122
  i0:=by kernel_rfl
  i3:=by kernel_rfl
  i4:=by kernel_rfl
  i5:=by kernel_rfl
  i9:=by kernel_rfl
  i20:=by kernel_rfl
  i21:=by kernel_rfl
  i37:=by kernel_rfl
  i46:=by kernel_rfl
  i51:=by kernel_rfl
  i70:=by kernel_rfl
  i72:=by kernel_rfl
  i75:=by kernel_rfl
  i76:=by kernel_rfl
  i80:=by kernel_rfl
  i105:=by kernel_rfl
  i127:=by kernel_rfl
  i138:=by kernel_rfl
  i139:=by kernel_rfl
  i146:=by kernel_rfl
  i164:=by kernel_rfl
  m1:=by kernel_rfl
  s1_3:=fun w h=>Go.Proofs.cell_of_shapedOpen_int (zero:=#[.int .i64 0]) (t:=3) h (of_decide_eq_true (by kernel_rfl)) (by kernel_rfl) rfl (by kernel_rfl) (by kernel_rfl) Tryz.underlying3
  m3:=by kernel_rfl
  m4:=by kernel_rfl }
theorem Tryz.Builder_Extra_M154 : Builder.Extra Tryz.prog Tryz.laysM154_ren:={
  sizeBuilder:=by kernel_rfl
  liesBuilder:=by kernel_rfl
  t5:=Tryz.underlying5
  a5:=Tryz.isAgg5
  z5:=Tryz.sizeOf5
  v5:=Tryz.zeroValue5
  infoByte:=by kernel_rfl
  cellsByte:=by kernel_rfl
  sizeByte:=by kernel_rfl
  neB5:=by decide }
open Go.RowKit Go.Lib in
theorem Tryz.strings_Replace_shaped (s old new : ByteArray) (n : Int) (w : World) (h : w.ShapedOpen Tryz.prog) (hs : s.size < 4294967281) (h1 : 1 ≤ old.size) (hlen : s.size + Lib.countB s old * new.size ≤ 140737488355328) :
    Calls Tryz.prog 129 #[.string s,.string old,.string new,.int .i64 n] w fun e w' =>
      e = .returned (.string ⟨(Lib.replace s.data.toList old.data.toList new.data.toList n).toArray⟩) ∧ Below w.heap.size w w':=Any.strings_Replace_shaped Tryz.laysM154 Tryz.Builder_Extra_M154 s old new n w h hs h1 hlen
def Tryz.laysM155_ren : Go.Shelf.Ren:=⟨fun|155=>112|154=>129|138=>142|165=>101|143=>108|166=>47|197=>137|169=>49|195=>148|218=>149|240=>75|241=>113|219=>118|260=>145|276=>98|277=>130|217=>135|225=>134|224=>133|267=>136|266=>143|314=>144|n=>n,fun|9=>9|3=>3|4=>4|72=>119|0=>0|76=>56|105=>201|21=>21|5=>5|70=>116|20=>20|37=>117|75=>26|127=>160|164=>174|46=>200|119=>209|139=>212|138=>211|146=>206|51=>205|80=>122|n=>n,fun|1=>0|3=>1|4=>2|n=>n⟩
theorem Tryz.laysM155 : Go.Proofs.LaysM.n155 Tryz.prog Tryz.laysM155_ren:={
  mixed:=by kernel_rfl
  f138:=Tryz.func142.trans (congrArg some (by kernel_rfl))
  f143:=Tryz.func108.trans (congrArg some (by kernel_rfl))
  f154:=Tryz.func129.trans (congrArg some (by kernel_rfl))
  f155:=Tryz.func112.trans (congrArg some (by kernel_rfl))
  f165:=Tryz.func101.trans (congrArg some (by kernel_rfl))
  f166:=Tryz.func47.trans (congrArg some (by kernel_rfl))
  f169:=Tryz.func49.trans (congrArg some (by kernel_rfl))
  f195:=Tryz.func148.trans (congrArg some (by kernel_rfl))
  f197:=Tryz.func137.trans (congrArg some (by kernel_rfl))
  f217:=Tryz.func135.trans (congrArg some (by kernel_rfl))
  f218:=Tryz.func149.trans (congrArg some (by kernel_rfl))
  f219:=Tryz.func118.trans (congrArg some (by kernel_rfl))
  f224:=Tryz.func133.trans (congrArg some (by kernel_rfl))
  f225:=Tryz.func134.trans (congrArg some (by kernel_rfl))
  f240:=Tryz.func75.trans (congrArg some (by kernel_rfl))
  f241:=Tryz.func113.trans (congrArg some (by kernel_rfl))
  f260:=Tryz.func145.trans (congrArg some (by kernel_rfl))
  f266:=Tryz.func143.trans (congrArg some (by kernel_rfl))
  f267:=Tryz.func136.trans (congrArg some (by kernel_rfl))
  f276:=Tryz.func98.trans (congrArg some (by kernel_rfl))
  f277:=Tryz.func130.trans (congrArg some (by kernel_rfl))
  f314:=Tryz.func144.trans (congrArg some (by kernel_rfl))
  t0:=Tryz.underlying0
  a0:=Tryz.isAgg0
  z0:=Tryz.sizeOf0
  v0:=Tryz.zeroValue0
  t3:=Tryz.underlying3
  a3:=Tryz.isAgg3
  z3:=Tryz.sizeOf3
  v3:=Tryz.zeroValue3
  t4:=Tryz.underlying4
  a4:=Tryz.isAgg4
  z4:=Tryz.sizeOf4
  v4:=Tryz.zeroValue4
  t5:=Tryz.underlying5
  a5:=Tryz.isAgg5
  z5:=Tryz.sizeOf5
  v5:=Tryz.zeroValue5
  t9:=Tryz.underlying9
  a9:=Tryz.isAgg9
  z9:=Tryz.sizeOf9
  v9:=Tryz.zeroValue9
  t20:=Tryz.underlying20
  a20:=Tryz.isAgg20
  z20:=Tryz.sizeOf20
  v20:=Tryz.zeroValue20
  t21:=Tryz.underlying21
  a21:=Tryz.isAgg21
  z21:=Tryz.sizeOf21
  v21:=Tryz.zeroValue21
  t37:=Tryz.underlying117
  a37:=Tryz.isAgg117
  z37:=Tryz.sizeOf117
  v37:=Tryz.zeroValue117
  t46:=Tryz.underlying200
  a46:=Tryz.isAgg200
  z46:=Tryz.sizeOf200
  v46:=Tryz.zeroValue200
  t51:=Tryz.underlying205
  a51:=Tryz.isAgg205
  z51:=Tryz.sizeOf205
  v51:=Tryz.zeroValue205
  t70:=Tryz.underlying116
  a70:=Tryz.isAgg116
  z70:=Tryz.sizeOf116
  v70:=Tryz.zeroValue116
  t72:=Tryz.underlying119
  a72:=Tryz.isAgg119
  z72:=Tryz.sizeOf119
  v72:=Tryz.zeroValue119
  t75:=Tryz.underlying26
  a75:=Tryz.isAgg26
  z75:=Tryz.sizeOf26
  v75:=Tryz.zeroValue26
  t76:=Tryz.underlying56
  a76:=Tryz.isAgg56
  z76:=Tryz.sizeOf56
  v76:=Tryz.zeroValue56
  t105:=Tryz.underlying201
  a105:=Tryz.isAgg201
  z105:=Tryz.sizeOf201
  v105:=Tryz.zeroValue201
  t119:=Tryz.underlying209
  a119:=Tryz.isAgg209
  z119:=Tryz.sizeOf209
  t127:=Tryz.underlying160
  a127:=Tryz.isAgg160
  z127:=Tryz.sizeOf160
  v127:=Tryz.zeroValue160
  t138:=Tryz.underlying211
  a138:=Tryz.isAgg211
  z138:=Tryz.sizeOf211
  v138:=Tryz.zeroValue211
  t139:=Tryz.underlying212
  a139:=Tryz.isAgg212
  z139:=Tryz.sizeOf212
  v139:=Tryz.zeroValue212
  t146:=Tryz.underlying206
  a146:=Tryz.isAgg206
  z146:=Tryz.sizeOf206
  v146:=Tryz.zeroValue206
  t164:=Tryz.underlying174
  a164:=Tryz.isAgg174
  z164:=Tryz.sizeOf174
  v164:=Tryz.zeroValue174
  g1:=by kernel_rfl
  g3:=by kernel_rfl
  g4:=by kernel_rfl
  t80:=Tryz.underlying122
  a80:=Tryz.isAgg122
  z80:=Tryz.sizeOf122
  v80:=Tryz.zeroValue122
  i0:=by kernel_rfl
  i3:=by kernel_rfl
  i4:=by kernel_rfl
  i5:=by kernel_rfl
  i9:=by kernel_rfl
  i20:=by kernel_rfl
  i21:=by kernel_rfl
  i37:=by kernel_rfl
  i46:=by kernel_rfl
  i51:=by kernel_rfl
  i70:=by kernel_rfl
  i72:=by kernel_rfl
  i75:=by kernel_rfl
  i76:=by kernel_rfl
  i80:=by kernel_rfl
  i105:=by kernel_rfl
  i127:=by kernel_rfl
  i138:=by kernel_rfl
  i139:=by kernel_rfl
  i146:=by kernel_rfl
  i164:=by kernel_rfl
  m1:=by kernel_rfl
  s1_3:=fun w h=>Go.Proofs.cell_of_shapedOpen_int (zero:=#[.int .i64 0]) (t:=3) h (of_decide_eq_true (by kernel_rfl)) (by kernel_rfl) rfl (by kernel_rfl) (by kernel_rfl) Tryz.underlying3
  m3:=by kernel_rfl
  m4:=by kernel_rfl }
theorem Tryz.Builder_Extra_M155 : Builder.Extra Tryz.prog Tryz.laysM155_ren:={
  sizeBuilder:=by kernel_rfl
  liesBuilder:=by kernel_rfl
  t5:=Tryz.underlying5
  a5:=Tryz.isAgg5
  z5:=Tryz.sizeOf5
  v5:=Tryz.zeroValue5
  infoByte:=by kernel_rfl
  cellsByte:=by kernel_rfl
  sizeByte:=by kernel_rfl
  neB5:=by decide }
open Go.RowKit Go.Lib in
theorem Tryz.strings_ReplaceAll_shaped (s old new : ByteArray) (w : World) (h : w.ShapedOpen Tryz.prog) (hs : s.size < 4294967281) (h1 : 1 ≤ old.size) (hlen : s.size + Lib.countB s old * new.size ≤ 140737488355328) :
    Calls Tryz.prog 112 #[.string s,.string old,.string new] w fun e w' =>
      e = .returned (.string ⟨(Lib.replaceAll s.data.toList old.data.toList new.data.toList).toArray⟩) ∧ Below w.heap.size w w':=Any.strings_ReplaceAll_shaped Tryz.laysM155 Tryz.Builder_Extra_M155 s old new w h hs h1 hlen
def Tryz.lays197_ren : Go.Shelf.Ren:=⟨fun|197=>137|260=>145|n=>n,fun|9=>9|21=>21|3=>3|4=>4|5=>5|105=>201|119=>209|0=>0|46=>200|139=>212|138=>211|n=>n,fun|3=>1|4=>2|n=>n⟩
theorem Tryz.lays197 : Go.Proofs.Lays.n197 Tryz.prog Tryz.lays197_ren:={
  mixed:=by kernel_rfl
  f197:=Tryz.func137.trans (congrArg some (by kernel_rfl))
  f260:=Tryz.func145.trans (congrArg some (by kernel_rfl))
  t0:=Tryz.underlying0
  a0:=Tryz.isAgg0
  z0:=Tryz.sizeOf0
  v0:=Tryz.zeroValue0
  t3:=Tryz.underlying3
  a3:=Tryz.isAgg3
  z3:=Tryz.sizeOf3
  v3:=Tryz.zeroValue3
  t4:=Tryz.underlying4
  a4:=Tryz.isAgg4
  z4:=Tryz.sizeOf4
  v4:=Tryz.zeroValue4
  t5:=Tryz.underlying5
  a5:=Tryz.isAgg5
  z5:=Tryz.sizeOf5
  v5:=Tryz.zeroValue5
  t9:=Tryz.underlying9
  a9:=Tryz.isAgg9
  z9:=Tryz.sizeOf9
  v9:=Tryz.zeroValue9
  t21:=Tryz.underlying21
  a21:=Tryz.isAgg21
  z21:=Tryz.sizeOf21
  v21:=Tryz.zeroValue21
  t46:=Tryz.underlying200
  a46:=Tryz.isAgg200
  z46:=Tryz.sizeOf200
  v46:=Tryz.zeroValue200
  t105:=Tryz.underlying201
  a105:=Tryz.isAgg201
  z105:=Tryz.sizeOf201
  v105:=Tryz.zeroValue201
  t119:=Tryz.underlying209
  a119:=Tryz.isAgg209
  z119:=Tryz.sizeOf209
  t138:=Tryz.underlying211
  a138:=Tryz.isAgg211
  z138:=Tryz.sizeOf211
  v138:=Tryz.zeroValue211
  t139:=Tryz.underlying212
  a139:=Tryz.isAgg212
  z139:=Tryz.sizeOf212
  v139:=Tryz.zeroValue212
  g3:=by kernel_rfl
  g4:=by kernel_rfl }
open Go.RowKit Go.Lib in
theorem Tryz.utf8_DecodeRuneInString_ascii (s : ByteArray) (x : UInt8) (w : World) (h0 : s.data.toList[0]? = some x) (hx : x.toNat < 128) :
    Calls Tryz.prog 137 #[.string s] w fun e w'=>e = .returned (.tuple #[.int .i32 x.toNat,.int .i64 1]) ∧ w' = w:=Any.utf8_DecodeRuneInString_ascii Tryz.lays197 s x w h0 hx
def Tryz.lays152_ren : Go.Shelf.Ren:=⟨fun|152=>114|137=>131|119=>132|224=>133|225=>134|217=>135|266=>143|n=>n,fun|9=>9|21=>21|3=>3|4=>4|5=>5|0=>0|46=>200|n=>n,fun|n=>n⟩
theorem Tryz.lays152 : Go.Proofs.Lays.n152 Tryz.prog Tryz.lays152_ren:={
  mixed:=by kernel_rfl
  f119:=Tryz.func132.trans (congrArg some (by kernel_rfl))
  f137:=Tryz.func131.trans (congrArg some (by kernel_rfl))
  f152:=Tryz.func114.trans (congrArg some (by kernel_rfl))
  f217:=Tryz.func135.trans (congrArg some (by kernel_rfl))
  f224:=Tryz.func133.trans (congrArg some (by kernel_rfl))
  f225:=Tryz.func134.trans (congrArg some (by kernel_rfl))
  f266:=Tryz.func143.trans (congrArg some (by kernel_rfl))
  t0:=Tryz.underlying0
  a0:=Tryz.isAgg0
  z0:=Tryz.sizeOf0
  v0:=Tryz.zeroValue0
  t3:=Tryz.underlying3
  a3:=Tryz.isAgg3
  z3:=Tryz.sizeOf3
  v3:=Tryz.zeroValue3
  t4:=Tryz.underlying4
  a4:=Tryz.isAgg4
  z4:=Tryz.sizeOf4
  v4:=Tryz.zeroValue4
  t5:=Tryz.underlying5
  a5:=Tryz.isAgg5
  z5:=Tryz.sizeOf5
  v5:=Tryz.zeroValue5
  t9:=Tryz.underlying9
  a9:=Tryz.isAgg9
  z9:=Tryz.sizeOf9
  v9:=Tryz.zeroValue9
  t21:=Tryz.underlying21
  a21:=Tryz.isAgg21
  z21:=Tryz.sizeOf21
  v21:=Tryz.zeroValue21
  t46:=Tryz.underlying200
  a46:=Tryz.isAgg200
  z46:=Tryz.sizeOf200
  v46:=Tryz.zeroValue200 }
open Go.RowKit Go.Lib in
theorem Tryz.strings_IndexRune_ascii (s : ByteArray) (r : Int) (w : World) (h0 : 0 ≤ r) (h1 : r < 128) :
    Calls Tryz.prog 114 #[.string s,.int .i32 r] w fun e w'=>e = .returned (.int .i64 (Lib.indexByte s.data.toList r.toNat.toUInt8)) ∧ w' = w:=Any.strings_IndexRune_ascii Tryz.lays152 s r w h0 h1
def Tryz.lays151_ren : Go.Shelf.Ren:=⟨fun|151=>138|152=>114|137=>131|119=>132|224=>133|225=>134|217=>135|266=>143|n=>n,fun|9=>9|21=>21|4=>4|3=>3|5=>5|0=>0|46=>200|n=>n,fun|n=>n⟩
theorem Tryz.lays151 : Go.Proofs.Lays.n151 Tryz.prog Tryz.lays151_ren:={
  mixed:=by kernel_rfl
  f119:=Tryz.func132.trans (congrArg some (by kernel_rfl))
  f137:=Tryz.func131.trans (congrArg some (by kernel_rfl))
  f151:=Tryz.func138.trans (congrArg some (by kernel_rfl))
  f152:=Tryz.func114.trans (congrArg some (by kernel_rfl))
  f217:=Tryz.func135.trans (congrArg some (by kernel_rfl))
  f224:=Tryz.func133.trans (congrArg some (by kernel_rfl))
  f225:=Tryz.func134.trans (congrArg some (by kernel_rfl))
  f266:=Tryz.func143.trans (congrArg some (by kernel_rfl))
  t0:=Tryz.underlying0
  a0:=Tryz.isAgg0
  z0:=Tryz.sizeOf0
  v0:=Tryz.zeroValue0
  t3:=Tryz.underlying3
  a3:=Tryz.isAgg3
  z3:=Tryz.sizeOf3
  v3:=Tryz.zeroValue3
  t4:=Tryz.underlying4
  a4:=Tryz.isAgg4
  z4:=Tryz.sizeOf4
  v4:=Tryz.zeroValue4
  t5:=Tryz.underlying5
  a5:=Tryz.isAgg5
  z5:=Tryz.sizeOf5
  v5:=Tryz.zeroValue5
  t9:=Tryz.underlying9
  a9:=Tryz.isAgg9
  z9:=Tryz.sizeOf9
  v9:=Tryz.zeroValue9
  t21:=Tryz.underlying21
  a21:=Tryz.isAgg21
  z21:=Tryz.sizeOf21
  v21:=Tryz.zeroValue21
  t46:=Tryz.underlying200
  a46:=Tryz.isAgg200
  z46:=Tryz.sizeOf200
  v46:=Tryz.zeroValue200 }
open Go.RowKit Go.Lib in
theorem Tryz.strings_ContainsRune_ascii (s : ByteArray) (r : Int) (w : World) (h0 : 0 ≤ r) (h1 : r < 128) :
    Calls Tryz.prog 138 #[.string s,.int .i32 r] w fun e w'=>e = .returned (.bool (decide (0 ≤ Lib.indexByte s.data.toList r.toNat.toUInt8))) ∧ w' = w:=Any.strings_ContainsRune_ascii Tryz.lays151 s r w h0 h1
open Go.RowKit Go.Lib in
theorem Tryz.utf8_RuneCountInString_ascii (s : ByteArray) (w : World) (hs : s.size < 4294967281) (hascii : ∀ (j : Nat) b,s.data.toList[j]? = some b → b.toNat < 128) :
    Calls Tryz.prog 148 #[.string s] w fun e w'=>e = .returned (.int .i64 s.size) ∧ w' = w.iter s s.size:=Any.utf8_RuneCountInString_ascii Tryz.lays195 s w hs hascii
def Tryz.lays226_ren : Go.Shelf.Ren:=⟨fun|226=>115|n=>n,fun|3=>3|4=>4|n=>n,fun|n=>n⟩
theorem Tryz.lays226 : Go.Proofs.Lays.n226 Tryz.prog Tryz.lays226_ren:={
  mixed:=by kernel_rfl
  f226:=Tryz.func115.trans (congrArg some (by kernel_rfl))
  t3:=Tryz.underlying3
  a3:=Tryz.isAgg3
  z3:=Tryz.sizeOf3
  v3:=Tryz.zeroValue3
  t4:=Tryz.underlying4
  a4:=Tryz.isAgg4
  z4:=Tryz.sizeOf4
  v4:=Tryz.zeroValue4 }
open Go.RowKit Go.Lib in
theorem Tryz.strings_shouldUseASCIISet (n : Int) (w : World) :
    Calls Tryz.prog 115 #[.int .i64 n] w fun e w'=>e = .returned (.bool (decide (8 < n))) ∧ w' = w:=Any.strings_shouldUseASCIISet Tryz.lays226 n w
def Tryz.lays153_ren : Go.Shelf.Ren:=⟨fun|153=>103|152=>114|226=>115|227=>116|228=>117|137=>131|119=>132|224=>133|225=>134|217=>135|266=>143|n=>n,fun|9=>9|3=>3|4=>4|5=>5|21=>21|117=>190|116=>189|0=>0|46=>200|124=>194|n=>n,fun|n=>n⟩
theorem Tryz.lays153 : Go.Proofs.Lays.n153 Tryz.prog Tryz.lays153_ren:={
  mixed:=by kernel_rfl
  f119:=Tryz.func132.trans (congrArg some (by kernel_rfl))
  f137:=Tryz.func131.trans (congrArg some (by kernel_rfl))
  f152:=Tryz.func114.trans (congrArg some (by kernel_rfl))
  f153:=Tryz.func103.trans (congrArg some (by kernel_rfl))
  f217:=Tryz.func135.trans (congrArg some (by kernel_rfl))
  f224:=Tryz.func133.trans (congrArg some (by kernel_rfl))
  f225:=Tryz.func134.trans (congrArg some (by kernel_rfl))
  f226:=Tryz.func115.trans (congrArg some (by kernel_rfl))
  f227:=Tryz.func116.trans (congrArg some (by kernel_rfl))
  f228:=Tryz.func117.trans (congrArg some (by kernel_rfl))
  f266:=Tryz.func143.trans (congrArg some (by kernel_rfl))
  t0:=Tryz.underlying0
  a0:=Tryz.isAgg0
  z0:=Tryz.sizeOf0
  v0:=Tryz.zeroValue0
  t3:=Tryz.underlying3
  a3:=Tryz.isAgg3
  z3:=Tryz.sizeOf3
  v3:=Tryz.zeroValue3
  t4:=Tryz.underlying4
  a4:=Tryz.isAgg4
  z4:=Tryz.sizeOf4
  v4:=Tryz.zeroValue4
  t5:=Tryz.underlying5
  a5:=Tryz.isAgg5
  z5:=Tryz.sizeOf5
  v5:=Tryz.zeroValue5
  t9:=Tryz.underlying9
  a9:=Tryz.isAgg9
  z9:=Tryz.sizeOf9
  v9:=Tryz.zeroValue9
  t21:=Tryz.underlying21
  a21:=Tryz.isAgg21
  z21:=Tryz.sizeOf21
  v21:=Tryz.zeroValue21
  t46:=Tryz.underlying200
  a46:=Tryz.isAgg200
  z46:=Tryz.sizeOf200
  v46:=Tryz.zeroValue200
  t116:=Tryz.underlying189
  a116:=Tryz.isAgg189
  z116:=Tryz.sizeOf189
  t117:=Tryz.underlying190
  a117:=Tryz.isAgg190
  z117:=Tryz.sizeOf190
  v117:=Tryz.zeroValue190
  t124:=Tryz.underlying194
  a124:=Tryz.isAgg194
  z124:=Tryz.sizeOf194
  v124:=Tryz.zeroValue194 }
open Go.RowKit Go.Lib in
theorem Tryz.strings_IndexAny_none (s chars : ByteArray) (w : World) (h0 : chars.size = 0) :
    Calls Tryz.prog 103 #[.string s,.string chars] w fun e w'=>e = .returned (.int .i64 (Lib.indexAny s.data.toList chars.data.toList)) ∧ w' = w:=Any.strings_IndexAny_none Tryz.lays153 s chars w h0
open Go.RowKit Go.Lib in
theorem Tryz.strings_IndexAny_one (s chars : ByteArray) (w : World) (h1 : chars.size = 1) (hascii : ∀ (j : Nat) b,chars.data.toList[j]? = some b → b.toNat < 128) :
    Calls Tryz.prog 103 #[.string s,.string chars] w fun e w'=>e = .returned (.int .i64 (Lib.indexAny s.data.toList chars.data.toList)) ∧ w' = w:=Any.strings_IndexAny_one Tryz.lays153 s chars w h1 hascii
open Go.RowKit Go.Lib in
theorem Tryz.strings_IndexAny_short (s chars : ByteArray) (w : World) (h2 : 2 ≤ chars.size) (h8 : s.size ≤ 8) (hascii : ∀ (j : Nat) b,s.data.toList[j]? = some b → b.toNat < 128) :
    Calls Tryz.prog 103 #[.string s,.string chars] w fun e w'=>e = .returned (.int .i64 (Lib.indexAny s.data.toList chars.data.toList)) ∧ ∃ pos,w' = w.iter s pos:=Any.strings_IndexAny_short Tryz.lays153 s chars w h2 h8 hascii
def Tryz.lays227_ren : Go.Shelf.Ren:=⟨fun|227=>116|n=>n,fun|9=>9|116=>189|4=>4|0=>0|3=>3|5=>5|n=>n,fun|n=>n⟩
theorem Tryz.lays227 : Go.Proofs.Lays.n227 Tryz.prog Tryz.lays227_ren:={
  mixed:=by kernel_rfl
  f227:=Tryz.func116.trans (congrArg some (by kernel_rfl))
  t0:=Tryz.underlying0
  a0:=Tryz.isAgg0
  z0:=Tryz.sizeOf0
  v0:=Tryz.zeroValue0
  t3:=Tryz.underlying3
  a3:=Tryz.isAgg3
  z3:=Tryz.sizeOf3
  v3:=Tryz.zeroValue3
  t4:=Tryz.underlying4
  a4:=Tryz.isAgg4
  z4:=Tryz.sizeOf4
  v4:=Tryz.zeroValue4
  t5:=Tryz.underlying5
  a5:=Tryz.isAgg5
  z5:=Tryz.sizeOf5
  v5:=Tryz.zeroValue5
  t9:=Tryz.underlying9
  a9:=Tryz.isAgg9
  z9:=Tryz.sizeOf9
  v9:=Tryz.zeroValue9
  t116:=Tryz.underlying189
  a116:=Tryz.isAgg189
  z116:=Tryz.sizeOf189 }
open Go.RowKit Go.Lib in
theorem Tryz.strings_makeASCIISet (hv116 : ∀ w,(zeroValue 189).run Tryz.prog w = .ok (.agg (Array.replicate 256 (.bool false))) w) (chars : ByteArray) (w : World) (hs : chars.size < 4294967281) (hascii : ∀ (j : Nat) b,chars.data.toList[j]? = some b → b.toNat < 128) :
    Calls Tryz.prog 116 #[.string chars] w fun e w'=>e = .returned (.tuple #[.agg (Lib.setCells chars.data.toList),.bool true]) ∧ w' = w.alloc (.cells (Lib.setCells chars.data.toList) 189):=Any.strings_makeASCIISet Tryz.lays227 hv116 (by kernel_rfl) chars w hs hascii
def Tryz.lays228_ren : Go.Shelf.Ren:=⟨fun|228=>117|n=>n,fun|124=>194|5=>5|4=>4|0=>0|116=>189|n=>n,fun|n=>n⟩
theorem Tryz.lays228 : Go.Proofs.Lays.n228 Tryz.prog Tryz.lays228_ren:={
  mixed:=by kernel_rfl
  f228:=Tryz.func117.trans (congrArg some (by kernel_rfl))
  t0:=Tryz.underlying0
  a0:=Tryz.isAgg0
  z0:=Tryz.sizeOf0
  v0:=Tryz.zeroValue0
  t4:=Tryz.underlying4
  a4:=Tryz.isAgg4
  z4:=Tryz.sizeOf4
  v4:=Tryz.zeroValue4
  t5:=Tryz.underlying5
  a5:=Tryz.isAgg5
  z5:=Tryz.sizeOf5
  v5:=Tryz.zeroValue5
  t116:=Tryz.underlying189
  a116:=Tryz.isAgg189
  z116:=Tryz.sizeOf189
  t124:=Tryz.underlying194
  a124:=Tryz.isAgg194
  z124:=Tryz.sizeOf194
  v124:=Tryz.zeroValue194 }
open Go.RowKit Go.Lib in
theorem Tryz.asciiSet_contains (b : Nat) (x : UInt8) (v : Bool) (w : World) (hc : w.cell? ⟨b,x.toNat,none⟩ = some (.bool v)) :
    Calls Tryz.prog 117 #[.pointer (some ⟨b,0,none⟩),.int .u8 x.toNat] w fun e w'=>e = .returned (.bool v) ∧ w' = w:=Any.asciiSet_contains Tryz.lays228 b x v w hc
open Go.RowKit Go.Lib in
theorem Tryz.strings_IndexAny_long (hv116 : ∀ w,(zeroValue 189).run Tryz.prog w = .ok (.agg (Array.replicate 256 (.bool false))) w) (s chars : ByteArray) (w : World) (h2 : 2 ≤ chars.size) (h8 : 8 < s.size) (hs : s.size < 4294967281) (hcs : chars.size < 4294967281) (hascii : ∀ (j : Nat) b,chars.data.toList[j]? = some b → b.toNat < 128) :
    Calls Tryz.prog 103 #[.string s,.string chars] w fun e w'=>e = .returned (.int .i64 (Lib.indexAny s.data.toList chars.data.toList)) ∧ w' = ((w.alloc (.cells (Lib.setCells chars.data.toList) 189)).alloc (.cells (Lib.setCells chars.data.toList) 189)):=Any.strings_IndexAny_long Tryz.lays153 hv116 (by kernel_rfl) s chars w h2 h8 hs hcs hascii
open Go.RowKit Go.Lib in
theorem Tryz.strings_IndexAny (hv116 : ∀ w,(zeroValue 189).run Tryz.prog w = .ok (.agg (Array.replicate 256 (.bool false))) w) (s chars : ByteArray) (w : World) (hs : s.size < 4294967281) (hcs : chars.size < 4294967281) (has : ∀ (j : Nat) b,s.data.toList[j]? = some b → b.toNat < 128) (hac : ∀ (j : Nat) b,chars.data.toList[j]? = some b → b.toNat < 128) :
    Calls Tryz.prog 103 #[.string s,.string chars] w fun e w'=>e = .returned (.int .i64 (Lib.indexAny s.data.toList chars.data.toList)) ∧ Below w.heap.size w w':=Any.strings_IndexAny Tryz.lays153 hv116 (by kernel_rfl) s chars w hs hcs has hac
def Tryz.lays150_ren : Go.Shelf.Ren:=⟨fun|150=>99|153=>103|152=>114|226=>115|227=>116|228=>117|137=>131|119=>132|224=>133|225=>134|217=>135|266=>143|n=>n,fun|9=>9|4=>4|3=>3|5=>5|21=>21|117=>190|116=>189|0=>0|46=>200|124=>194|n=>n,fun|n=>n⟩
theorem Tryz.lays150 : Go.Proofs.Lays.n150 Tryz.prog Tryz.lays150_ren:={
  mixed:=by kernel_rfl
  f119:=Tryz.func132.trans (congrArg some (by kernel_rfl))
  f137:=Tryz.func131.trans (congrArg some (by kernel_rfl))
  f150:=Tryz.func99.trans (congrArg some (by kernel_rfl))
  f152:=Tryz.func114.trans (congrArg some (by kernel_rfl))
  f153:=Tryz.func103.trans (congrArg some (by kernel_rfl))
  f217:=Tryz.func135.trans (congrArg some (by kernel_rfl))
  f224:=Tryz.func133.trans (congrArg some (by kernel_rfl))
  f225:=Tryz.func134.trans (congrArg some (by kernel_rfl))
  f226:=Tryz.func115.trans (congrArg some (by kernel_rfl))
  f227:=Tryz.func116.trans (congrArg some (by kernel_rfl))
  f228:=Tryz.func117.trans (congrArg some (by kernel_rfl))
  f266:=Tryz.func143.trans (congrArg some (by kernel_rfl))
  t0:=Tryz.underlying0
  a0:=Tryz.isAgg0
  z0:=Tryz.sizeOf0
  v0:=Tryz.zeroValue0
  t3:=Tryz.underlying3
  a3:=Tryz.isAgg3
  z3:=Tryz.sizeOf3
  v3:=Tryz.zeroValue3
  t4:=Tryz.underlying4
  a4:=Tryz.isAgg4
  z4:=Tryz.sizeOf4
  v4:=Tryz.zeroValue4
  t5:=Tryz.underlying5
  a5:=Tryz.isAgg5
  z5:=Tryz.sizeOf5
  v5:=Tryz.zeroValue5
  t9:=Tryz.underlying9
  a9:=Tryz.isAgg9
  z9:=Tryz.sizeOf9
  v9:=Tryz.zeroValue9
  t21:=Tryz.underlying21
  a21:=Tryz.isAgg21
  z21:=Tryz.sizeOf21
  v21:=Tryz.zeroValue21
  t46:=Tryz.underlying200
  a46:=Tryz.isAgg200
  z46:=Tryz.sizeOf200
  v46:=Tryz.zeroValue200
  t116:=Tryz.underlying189
  a116:=Tryz.isAgg189
  z116:=Tryz.sizeOf189
  t117:=Tryz.underlying190
  a117:=Tryz.isAgg190
  z117:=Tryz.sizeOf190
  v117:=Tryz.zeroValue190
  t124:=Tryz.underlying194
  a124:=Tryz.isAgg194
  z124:=Tryz.sizeOf194
  v124:=Tryz.zeroValue194 }
open Go.RowKit Go.Lib in
theorem Tryz.strings_ContainsAny (hv116 : ∀ w,(zeroValue 189).run Tryz.prog w = .ok (.agg (Array.replicate 256 (.bool false))) w) (s chars : ByteArray) (w : World) (hs : s.size < 4294967281) (hcs : chars.size < 4294967281) (has : ∀ (j : Nat) b,s.data.toList[j]? = some b → b.toNat < 128) (hac : ∀ (j : Nat) b,chars.data.toList[j]? = some b → b.toNat < 128) :
    Calls Tryz.prog 99 #[.string s,.string chars] w fun e w'=>e = .returned (.bool (Lib.containsAny s.data.toList chars.data.toList)) ∧ Below w.heap.size w w':=Any.strings_ContainsAny Tryz.lays150 hv116 (by kernel_rfl) s chars w hs hcs has hac
open Go.RowKit Go.Lib in
theorem Tryz.strings_IndexAny_laid (s chars : ByteArray) (w : World) (hs : s.size < 4294967281) (hcs : chars.size < 4294967281) (has : ∀ (j : Nat) b,s.data.toList[j]? = some b → b.toNat < 128) (hac : ∀ (j : Nat) b,chars.data.toList[j]? = some b → b.toNat < 128) :
    Calls Tryz.prog 103 #[.string s,.string chars] w fun e w'=>e = .returned (.int .i64 (Lib.indexAny s.data.toList chars.data.toList)) ∧ Below w.heap.size w w':=Any.strings_IndexAny_laid Tryz.lays153 (by kernel_rfl) s chars w hs hcs has hac
open Go.RowKit Go.Lib in
theorem Tryz.strings_ContainsAny_laid (s chars : ByteArray) (w : World) (hs : s.size < 4294967281) (hcs : chars.size < 4294967281) (has : ∀ (j : Nat) b,s.data.toList[j]? = some b → b.toNat < 128) (hac : ∀ (j : Nat) b,chars.data.toList[j]? = some b → b.toNat < 128) :
    Calls Tryz.prog 99 #[.string s,.string chars] w fun e w'=>e = .returned (.bool (Lib.containsAny s.data.toList chars.data.toList)) ∧ Below w.heap.size w w':=Any.strings_ContainsAny_laid Tryz.lays150 (by kernel_rfl) s chars w hs hcs has hac
def Tryz.lays268_ren : Go.Shelf.Ren:=⟨fun|268=>147|195=>148|197=>137|260=>145|n=>n,fun|9=>9|3=>3|31=>22|4=>4|105=>201|21=>21|0=>0|5=>5|119=>209|46=>200|139=>212|138=>211|n=>n,fun|3=>1|4=>2|n=>n⟩
theorem Tryz.lays268 : Go.Proofs.Lays.n268 Tryz.prog Tryz.lays268_ren:={
  mixed:=by kernel_rfl
  f195:=Tryz.func148.trans (congrArg some (by kernel_rfl))
  f197:=Tryz.func137.trans (congrArg some (by kernel_rfl))
  f260:=Tryz.func145.trans (congrArg some (by kernel_rfl))
  f268:=Tryz.func147.trans (congrArg some (by kernel_rfl))
  t0:=Tryz.underlying0
  a0:=Tryz.isAgg0
  z0:=Tryz.sizeOf0
  v0:=Tryz.zeroValue0
  t3:=Tryz.underlying3
  a3:=Tryz.isAgg3
  z3:=Tryz.sizeOf3
  v3:=Tryz.zeroValue3
  t4:=Tryz.underlying4
  a4:=Tryz.isAgg4
  z4:=Tryz.sizeOf4
  v4:=Tryz.zeroValue4
  t5:=Tryz.underlying5
  a5:=Tryz.isAgg5
  z5:=Tryz.sizeOf5
  v5:=Tryz.zeroValue5
  t9:=Tryz.underlying9
  a9:=Tryz.isAgg9
  z9:=Tryz.sizeOf9
  v9:=Tryz.zeroValue9
  t21:=Tryz.underlying21
  a21:=Tryz.isAgg21
  z21:=Tryz.sizeOf21
  v21:=Tryz.zeroValue21
  t31:=Tryz.underlying22
  a31:=Tryz.isAgg22
  z31:=Tryz.sizeOf22
  v31:=Tryz.zeroValue22
  t46:=Tryz.underlying200
  a46:=Tryz.isAgg200
  z46:=Tryz.sizeOf200
  v46:=Tryz.zeroValue200
  t105:=Tryz.underlying201
  a105:=Tryz.isAgg201
  z105:=Tryz.sizeOf201
  v105:=Tryz.zeroValue201
  t119:=Tryz.underlying209
  a119:=Tryz.isAgg209
  z119:=Tryz.sizeOf209
  t138:=Tryz.underlying211
  a138:=Tryz.isAgg211
  z138:=Tryz.sizeOf211
  v138:=Tryz.zeroValue211
  t139:=Tryz.underlying212
  a139:=Tryz.isAgg212
  z139:=Tryz.sizeOf212
  v139:=Tryz.zeroValue212
  g3:=by kernel_rfl
  g4:=by kernel_rfl }
open Go.RowKit Go.Lib in
theorem Tryz.strings_explode_all (s : ByteArray) (n : Int) (w : World) (hn : n < 0) (hs : s.size < 4294967281) (hascii : ∀ (j : Nat) b,s.data.toList[j]? = some b → b.toNat < 128) :
    Calls Tryz.prog 147 #[.string s,.int .i64 n] w fun e w' =>
      e = .returned (.slice (some ⟨(w.iter s s.size).heap.size,0,none⟩) s.size s.size) ∧ w' = (w.iter s s.size).alloc (.cells ((Lib.charsB s).map Value.string).toArray 9):=Any.strings_explode_all Tryz.lays268 (by kernel_rfl) s n w hn hs hascii
open Go.RowKit Go.Lib in
theorem Tryz.strings_genSplit_chars (s sep : ByteArray) (sv n : Int) (w : World) (h0 : sep.size = 0) (hn : n < 0) (hs : s.size < 4294967281) (hascii : ∀ (j : Nat) b,s.data.toList[j]? = some b → b.toNat < 128) :
    Calls Tryz.prog 141 #[.string s,.string sep,.int .i64 sv,.int .i64 n] w fun e w' =>
      e = .returned (.slice (some ⟨(w.iter s s.size).heap.size,0,none⟩) s.size s.size) ∧ w' = (w.iter s s.size).alloc (.cells ((Lib.charsB s).map Value.string).toArray 9):=Any.strings_genSplit_chars Tryz.lays221 (by kernel_rfl) s sep sv n w h0 hn hs hascii
open Go.RowKit Go.Lib in
theorem Tryz.strings_Split_chars (s sep : ByteArray) (w : World) (h0 : sep.size = 0) (hs : s.size < 4294967281) (hascii : ∀ (j : Nat) b,s.data.toList[j]? = some b → b.toNat < 128) :
    Calls Tryz.prog 127 #[.string s,.string sep] w fun e w' =>
      e = .returned (.slice (some ⟨(w.iter s s.size).heap.size,0,none⟩) s.size s.size) ∧ w' = (w.iter s s.size).alloc (.cells ((Lib.charsB s).map Value.string).toArray 9):=Any.strings_Split_chars Tryz.lays146 (by kernel_rfl) s sep w h0 hs hascii
def Tryz.lays260_ren : Go.Shelf.Ren:=⟨fun|260=>145|n=>n,fun|9=>9|21=>21|3=>3|4=>4|5=>5|119=>209|0=>0|46=>200|139=>212|138=>211|n=>n,fun|3=>1|4=>2|n=>n⟩
theorem Tryz.lays260 : Go.Proofs.Lays.n260 Tryz.prog Tryz.lays260_ren:={
  mixed:=by kernel_rfl
  f260:=Tryz.func145.trans (congrArg some (by kernel_rfl))
  t0:=Tryz.underlying0
  a0:=Tryz.isAgg0
  z0:=Tryz.sizeOf0
  v0:=Tryz.zeroValue0
  t3:=Tryz.underlying3
  a3:=Tryz.isAgg3
  z3:=Tryz.sizeOf3
  v3:=Tryz.zeroValue3
  t4:=Tryz.underlying4
  a4:=Tryz.isAgg4
  z4:=Tryz.sizeOf4
  v4:=Tryz.zeroValue4
  t5:=Tryz.underlying5
  a5:=Tryz.isAgg5
  z5:=Tryz.sizeOf5
  v5:=Tryz.zeroValue5
  t9:=Tryz.underlying9
  a9:=Tryz.isAgg9
  z9:=Tryz.sizeOf9
  v9:=Tryz.zeroValue9
  t21:=Tryz.underlying21
  a21:=Tryz.isAgg21
  z21:=Tryz.sizeOf21
  v21:=Tryz.zeroValue21
  t46:=Tryz.underlying200
  a46:=Tryz.isAgg200
  z46:=Tryz.sizeOf200
  v46:=Tryz.zeroValue200
  t119:=Tryz.underlying209
  a119:=Tryz.isAgg209
  z119:=Tryz.sizeOf209
  t138:=Tryz.underlying211
  a138:=Tryz.isAgg211
  z138:=Tryz.sizeOf211
  v138:=Tryz.zeroValue211
  t139:=Tryz.underlying212
  a139:=Tryz.isAgg212
  z139:=Tryz.sizeOf212
  v139:=Tryz.zeroValue212
  g3:=by kernel_rfl
  g4:=by kernel_rfl }
open Go.RowKit Go.Lib in
theorem Tryz.utf8_decodeRuneInStringSlow (s : ByteArray) (w : World) (hT : Lib.Utf8Tabs 1 2 w) :
    Calls Tryz.prog 145 #[.string s] w fun e w'=>e = .returned (.tuple #[.int .i32 (Lib.decodeGo s).1,.int .i64 (Lib.decodeGo s).2]) ∧ Below w.heap.size w w':=Any.utf8_decodeRuneInStringSlow Tryz.lays260 s w hT
open Go.RowKit Go.Lib in
theorem Tryz.utf8_DecodeRuneInString (s : ByteArray) (w : World) (hT : Lib.Utf8Tabs 1 2 w) :
    Calls Tryz.prog 137 #[.string s] w fun e w'=>e = .returned (.tuple #[.int .i32 (Lib.decodeGo s).1,.int .i64 (Lib.decodeGo s).2]) ∧ Below w.heap.size w w':=Any.utf8_DecodeRuneInString Tryz.lays197 s w hT
def Tryz.lays271_ren : Go.Shelf.Ren:=⟨fun|271=>139|120=>146|197=>137|260=>145|n=>n,fun|9=>9|21=>21|3=>3|4=>4|5=>5|105=>201|119=>209|0=>0|46=>200|139=>212|138=>211|n=>n,fun|3=>1|4=>2|n=>n⟩
theorem Tryz.lays271 : Go.Proofs.Lays.n271 Tryz.prog Tryz.lays271_ren:={
  mixed:=by kernel_rfl
  f120:=Tryz.func146.trans (congrArg some (by kernel_rfl))
  f197:=Tryz.func137.trans (congrArg some (by kernel_rfl))
  f260:=Tryz.func145.trans (congrArg some (by kernel_rfl))
  f271:=Tryz.func139.trans (congrArg some (by kernel_rfl))
  t0:=Tryz.underlying0
  a0:=Tryz.isAgg0
  z0:=Tryz.sizeOf0
  v0:=Tryz.zeroValue0
  t3:=Tryz.underlying3
  a3:=Tryz.isAgg3
  z3:=Tryz.sizeOf3
  v3:=Tryz.zeroValue3
  t4:=Tryz.underlying4
  a4:=Tryz.isAgg4
  z4:=Tryz.sizeOf4
  v4:=Tryz.zeroValue4
  t5:=Tryz.underlying5
  a5:=Tryz.isAgg5
  z5:=Tryz.sizeOf5
  v5:=Tryz.zeroValue5
  t9:=Tryz.underlying9
  a9:=Tryz.isAgg9
  z9:=Tryz.sizeOf9
  v9:=Tryz.zeroValue9
  t21:=Tryz.underlying21
  a21:=Tryz.isAgg21
  z21:=Tryz.sizeOf21
  v21:=Tryz.zeroValue21
  t46:=Tryz.underlying200
  a46:=Tryz.isAgg200
  z46:=Tryz.sizeOf200
  v46:=Tryz.zeroValue200
  t105:=Tryz.underlying201
  a105:=Tryz.isAgg201
  z105:=Tryz.sizeOf201
  v105:=Tryz.zeroValue201
  t119:=Tryz.underlying209
  a119:=Tryz.isAgg209
  z119:=Tryz.sizeOf209
  t138:=Tryz.underlying211
  a138:=Tryz.isAgg211
  z138:=Tryz.sizeOf211
  v138:=Tryz.zeroValue211
  t139:=Tryz.underlying212
  a139:=Tryz.isAgg212
  z139:=Tryz.sizeOf212
  v139:=Tryz.zeroValue212
  g3:=by kernel_rfl
  g4:=by kernel_rfl }
open Go.RowKit Go.Lib in
theorem Tryz.utf8_DecodeLastRuneInString (s : ByteArray) (w : World) (hs : s.size ≤ 9223372036854775807) (hT : Lib.Utf8Tabs 1 2 w) :
    Calls Tryz.prog 139 #[.string s] w fun e w'=>e = .returned (.tuple #[.int .i32 (Lib.decodeLastL s.data.toList).1,.int .i64 (Lib.decodeLastL s.data.toList).2]) ∧ Below w.heap.size w w':=Any.utf8_DecodeLastRuneInString Tryz.lays271 s w hs hT
def Tryz.lays109_ren : Go.Shelf.Ren:=⟨fun|109=>65|n=>n,fun|31=>22|9=>9|3=>3|0=>0|4=>4|n=>n,fun|n=>n⟩
theorem Tryz.lays109 : Go.Proofs.Lays.n109 Tryz.prog Tryz.lays109_ren:={
  mixed:=by kernel_rfl
  f109:=Tryz.func65.trans (congrArg some (by kernel_rfl))
  t0:=Tryz.underlying0
  a0:=Tryz.isAgg0
  z0:=Tryz.sizeOf0
  v0:=Tryz.zeroValue0
  t3:=Tryz.underlying3
  a3:=Tryz.isAgg3
  z3:=Tryz.sizeOf3
  v3:=Tryz.zeroValue3
  t4:=Tryz.underlying4
  a4:=Tryz.isAgg4
  z4:=Tryz.sizeOf4
  v4:=Tryz.zeroValue4
  t9:=Tryz.underlying9
  a9:=Tryz.isAgg9
  z9:=Tryz.sizeOf9
  v9:=Tryz.zeroValue9
  t31:=Tryz.underlying22
  a31:=Tryz.isAgg22
  z31:=Tryz.sizeOf22
  v31:=Tryz.zeroValue22 }
open Go.Lib in
theorem Tryz.slices_Index_string (b off n c : Nat) (zs : List ByteArray) (x : ByteArray) (w : World) (hz : n ≤ zs.length) (hbig : n ≤ 9223372036854775807) (hc : ∀ j,j < zs.length → w.cell? ⟨b,off + j,none⟩ = some (.string (zs.getD j ByteArray.empty))) :
    Calls Tryz.prog 65 #[.slice (some ⟨b,off,none⟩) n c,.string x] w fun e w'=>e = .returned (.int .i64 (Lib.idxOfS (zs.take n) x)) ∧ w' = w:=Any.slices_Index_string Tryz.lays109 b off n c zs x w hz hbig hc
open Go.Lib in
theorem Tryz.slices_Index_string_empty (a : Option Addr) (c : Nat) (x : ByteArray) (w : World) :
    Calls Tryz.prog 65 #[.slice a 0 c,.string x] w fun e w'=>e = .returned (.int .i64 (Lib.idxOfS [] x)) ∧ w' = w:=Any.slices_Index_string_empty Tryz.lays109 a c x w
def Tryz.lays110_ren : Go.Shelf.Ren:=⟨fun|110=>37|109=>65|n=>n,fun|31=>22|9=>9|4=>4|3=>3|0=>0|n=>n,fun|n=>n⟩
theorem Tryz.lays110 : Go.Proofs.Lays.n110 Tryz.prog Tryz.lays110_ren:={
  mixed:=by kernel_rfl
  f109:=Tryz.func65.trans (congrArg some (by kernel_rfl))
  f110:=Tryz.func37.trans (congrArg some (by kernel_rfl))
  t0:=Tryz.underlying0
  a0:=Tryz.isAgg0
  z0:=Tryz.sizeOf0
  v0:=Tryz.zeroValue0
  t3:=Tryz.underlying3
  a3:=Tryz.isAgg3
  z3:=Tryz.sizeOf3
  v3:=Tryz.zeroValue3
  t4:=Tryz.underlying4
  a4:=Tryz.isAgg4
  z4:=Tryz.sizeOf4
  v4:=Tryz.zeroValue4
  t9:=Tryz.underlying9
  a9:=Tryz.isAgg9
  z9:=Tryz.sizeOf9
  v9:=Tryz.zeroValue9
  t31:=Tryz.underlying22
  a31:=Tryz.isAgg22
  z31:=Tryz.sizeOf22
  v31:=Tryz.zeroValue22 }
open Go.Lib in
theorem Tryz.slices_Contains_string (b off n c : Nat) (zs : List ByteArray) (x : ByteArray) (w : World) (hz : n ≤ zs.length) (hbig : n ≤ 9223372036854775807) (hc : ∀ j,j < zs.length → w.cell? ⟨b,off + j,none⟩ = some (.string (zs.getD j ByteArray.empty))) :
    Calls Tryz.prog 37 #[.slice (some ⟨b,off,none⟩) n c,.string x] w fun e w'=>e = .returned (.bool (Lib.containsS (zs.take n) x)) ∧ w' = w:=Any.slices_Contains_string Tryz.lays110 b off n c zs x w hz hbig hc
open Go.Lib in
theorem Tryz.slices_Contains_string_empty (a : Option Addr) (c : Nat) (x : ByteArray) (w : World) :
    Calls Tryz.prog 37 #[.slice a 0 c,.string x] w fun e w'=>e = .returned (.bool false) ∧ w' = w:=Any.slices_Contains_string_empty Tryz.lays110 a c x w
end Go.Proofs
namespace Go.Proofs.YtehmiepjeffloaaGreatDoor
open Go.RowKit
namespace Ab
theorem acall2 {P : Program} {f : FuncId} {a b u : Value} {r : A} (hfn : FnOk P f) (hr : ∀ ok w,r.rep ok yG w u) (h : ∀ w,GlobCell w → Calls P f #[a,b] w fun e w'=>e = .returned u ∧ Below w.heap.size w w') : qR P f [.one (.lit a),.one (.lit b)] r:=by
  refine ⟨hfn,fun ok w vs hg hvs=>?_⟩;obtain ⟨v,t,rfl,hv,v2,t2,rfl,hv2,ht⟩:=hvs;rw [show t2 = [] from ht,show v = a from hv,show v2 = b from hv2];refine (h w hg.2.2).mono ?_
  rintro e w' ⟨rfl,hb⟩
  exact ⟨_,rfl,hb,hr _ _⟩
theorem same_below {e : Ending} {u : Value} {w w' : World} (h : e = .returned u ∧ w' = w) : e = .returned u ∧ Below w.heap.size w w':=⟨h.1,by rw [h.2];exact Below.refl _ _⟩
theorem hasPrefix_c (s p : ByteArray) : qR Tryz.prog 92 [is s,is p] (ib (Lib.hasPrefix s.data.toList p.data.toList)) :=
  acall2 ⟨_,Tryz.func92,rfl,rfl⟩ (fun _ _=>rfl) fun w _=>(Tryz.strings_HasPrefix s p w).mono fun _ _ h=>same_below h
theorem contains_c (s p : ByteArray) (hs : s.size < 4294967281) : qR Tryz.prog 93 [is s,is p] (ib (Lib.contains s.data.toList p.data.toList)) :=
  acall2 ⟨_,Tryz.func93,rfl,rfl⟩ (fun _ _=>rfl) fun w ⟨m,hm⟩=>(Tryz.strings_Contains s p m w hs hm).mono fun _ _ h=>same_below h
theorem trimPrefix_c (s p : ByteArray) : qR Tryz.prog 126 [is s,is p] (is ⟨(Lib.trimPrefix s.data.toList p.data.toList).toArray⟩) :=
  acall2 ⟨_,Tryz.func126,rfl,rfl⟩ (fun _ _=>rfl) fun w _=>(Tryz.strings_TrimPrefix s p w).mono fun _ _ h=>same_below h
theorem cut_c (s p : ByteArray) (hs : s.size < 4294967281) : qR Tryz.prog 81 [is s,is p] (.tup [(false,[.lit (.string ⟨(Lib.cut s.data.toList p.data.toList).1.toArray⟩)]),(false,[.lit (.string ⟨(Lib.cut s.data.toList p.data.toList).2.1.toArray⟩)]),(false,[.lit (.bool (Lib.cut s.data.toList p.data.toList).2.2)])]) :=
  acall2 ⟨_,Tryz.func81,rfl,rfl⟩ (fun _ _=>⟨_,rfl,_,_,rfl,⟨_,_,rfl,rfl,rfl⟩,_,_,rfl,⟨_,_,rfl,rfl,rfl⟩,_,_,rfl,⟨_,_,rfl,rfl,rfl⟩,rfl⟩) fun w ⟨m,hm⟩=>(Tryz.strings_Cut s p m w hs hm).mono fun _ _ h=>⟨h.1,by obtain ⟨n,hn⟩:=h.2;rw [hn];exact ⟨rfl,rfl,rfl,Nat.le_refl _,fun _ _=>rfl⟩⟩
theorem split_c (s p : ByteArray) (hs : s.size < 4294967281) (h1 : 1 ≤ p.size) (hc : Lib.countB s p + 1 ≤ maxLen) : qR Tryz.prog 127 [is s,is p] (.one (.sl .str (Lib.splitB p 0 (Lib.countB s p) s))):=by
  refine ⟨⟨_,Tryz.func127,rfl,rfl⟩,fun ok w vs hg hvs=>?_⟩;obtain ⟨v,t,rfl,hv,v2,t2,rfl,hv2,ht⟩:=hvs;rw [show t2 = [] from ht,show v = .string s from hv,show v2 = .string p from hv2];obtain ⟨_,_,m,hm⟩:=hg;refine (Tryz.strings_Split s p m w hs hm h1).mono ?_
  rintro e w' ⟨rfl,rfl⟩
  refine ⟨_,rfl,below_alloc w _,?_⟩;have hl:=Lib.splitB_all p h1 0 (Lib.countB s p) s rfl;rw [← hl] at hc ⊢;refine ⟨_,_,rfl,Nat.le_refl _,hc,fun i hi=>⟨w.heap.size,0,[.string (Lib.splitB p 0 (Lib.countB s p) s)[i]],rfl,okU0 (.inr ⟨Nat.le_refl _,by decide⟩),by simp,⟨rfl,fun j hj=>?_⟩,rfl⟩⟩;obtain rfl : j = 0:=by simp only [Rd.n] at hj;omega
  have hh : (w.alloc (Obj.cells (List.map Value.string (Lib.splitB p 0 (Lib.countB s p) s)).toArray 9)).heap[w.heap.size]? = _:=heap_new w _;simp only [World.cell?,hh];simp [Rd.n,hi]
theorem join_c (xs : List ByteArray) (sep : ByteArray) (hN : xs.length ≤ 140737488355328) (hlen : (Lib.join (xs.map (·.data.toList)) sep.data.toList).length ≤ 140737488355328) : qR Tryz.prog 78 [.one (.sl .str xs),is sep] (is ⟨(Lib.join (xs.map (·.data.toList)) sep.data.toList).toArray⟩):=by
  refine ⟨⟨_,Tryz.func78,rfl,rfl⟩,fun ok w vs hg hvs=>?_⟩;obtain ⟨v,t,rfl,⟨a,cap,rfl,h1,h2,hc⟩,v2,t2,rfl,hv2,ht⟩:=hvs;rw [show t2 = [] from ht,show v2 = .string sep from hv2]
  by_cases h0 : xs = []
  · subst h0;refine (Tryz.strings_Join_none a cap sep w).mono ?_
    rintro e w' ⟨rfl,rfl⟩
    exact ⟨_,rfl,Below.refl _ _,rfl⟩
  · have hpos : 0 < xs.length:=List.length_pos_iff.2 h0;obtain ⟨b,off,_,rfl,_,hb,_⟩:=hc 0 hpos;refine (Tryz.strings_Join b off cap xs sep w (fun j x hj=>?_) hb hN h1 hlen).mono ?_
    · obtain ⟨hjl,rfl⟩:=List.getElem?_eq_some_iff.1 hj;obtain ⟨b',off',cs,e,_,_,hcell,hr⟩:=hc j hjl;cases e;have hr : cs = [.string xs[j]]:=hr;have:=hcell.2 0 (by decide);rw [hr] at this
      simpa [Rd.n] using this
    · rintro e w' ⟨rfl,hb⟩
      exact ⟨_,rfl,hb,rfl⟩
end Ab
end Go.Proofs.YtehmiepjeffloaaGreatDoor
namespace Go.Proofs.YtehmiepjeffloaaGreatDoor
open Go.RowKit
namespace Ab
theorem trimS_c (s p : ByteArray) (hp : p.data.toList.all (fun b=>decide (b.toNat < 128)) = true) (hps : p.size < 4294967281) (hs : s.size ≤ 9223372036854775807) : qR Tryz.prog 105 [is s,is p] (is ⟨(Lib.trimS s.data.toList p.data.toList).toArray⟩) :=
  acall2 ⟨_,Tryz.func105,rfl,rfl⟩ (fun _ _=>rfl) fun w _=>(Any.strings_Trim_laid Tryz.lays160 (by kernel_rfl) s p w hs hps (ascii_of_all hp)).mono fun _ _ h=>h
end Ab
end Go.Proofs.YtehmiepjeffloaaGreatDoor
namespace Go.Proofs.YtehmiepjeffloaaGreatDoor
open Go.RowKit
namespace Ab
set_option maxRecDepth 100000
abbrev Fld:=ByteArray × ByteArray
abbrev rFld : Rd Fld:=.st .str .str
theorem qS {n b : Nat} (h : n ≤ 1000000000) (hb : b ≤ 1000) : n * b ≤ 140737488355328:=Nat.le_trans (Nat.mul_le_mul h hb) (by decide)
theorem map_next {α β : Type} (g : α → β) (d : α) {l : List α} {i : Nat} (h : i < l.length) (b : β) (hb : b = g (l.getD i d)) (c : List β) : c ++ (l.take i).map g ++ [b] = c ++ (l.take (i + 1)).map g:=by
  rw [hb,List.append_assoc,← yQ d h,List.map_append];rfl
namespace Q
def FldsOk (l : List Fld) : Prop:=l.length ≤ 1000 ∧ ∀ f ∈ l,f.1.size ≤ 1000000 ∧ f.2.size ≤ 1000000
def sumF (l : List Fld) : Nat:=(l.map fun f=>min f.1.size 10000 + min f.2.size 10000).sum
def muchB (l : List Fld) : Bool:=decide (61 < l.length) || decide (6000 < sumF l)
theorem drop_cons {l : List UInt8} {i : Nat} (h : i < l.length) : l.drop i = l.getD i 0 :: l.drop (i + 1):=by
  rw [List.drop_eq_getElem_cons h,List.getD_eq_getElem?_getD,List.getElem?_eq_getElem h];rfl
theorem qV (s : ByteArray) : s.size = s.data.toList.length:=by cases s;rfl
abbrev ls (s : ByteArray) : List UInt8:=s.data.toList
def bytes (l : List UInt8) : ByteArray:=⟨l.toArray⟩
theorem qT (l : List UInt8) : (bytes l).data.toList = l:=by simp [bytes]
theorem xK (s : ByteArray) : bytes (ls s) = s:=by cases s;rfl
def Clean (sep p : List UInt8) : Prop:=(∀ r j,j < p.length → Lib.occAt (p ++ sep ++ r) sep j = false) ∧ ∀ j,j ≤ p.length → Lib.occAt p sep j = false
theorem join_two (p q : List UInt8) (ps : List (List UInt8)) (sep : List UInt8) : Lib.join (p :: q :: ps) sep = p ++ sep ++ Lib.join (q :: ps) sep:=by
  rw [Lib.join_cons,Lib.join_cons];simp [Lib.joinTail]
theorem ints_app (l m : List UInt8) : yX (bytes l) ++ yX (bytes m) = yX (bytes (l ++ m)):=by
  unfold yX;rw [qT,qT,qT,List.map_append]
theorem ints_len (l : List UInt8) : (yX (bytes l)).length = l.length:=by unfold yX;rw [qT,List.length_map]
theorem extract_one {s : ByteArray} {i : Nat} (h : i < s.data.toList.length) : s.extract i (i + 1) = bytes [s.data.toList.getD i 0]:=by
  apply ByteArray.ext;apply Array.ext';rw [qT,Lib.extract_data,Nat.add_sub_cancel_left,drop_cons h];rfl
theorem bytes_app (l m : List UInt8) : bytes (l ++ m) = bytes l ++ bytes m:=by
  apply ByteArray.ext;simp [bytes]
theorem ints_add (l m : List UInt8) (t : ByteArray) (h : t = bytes m) : yX (bytes l) ++ yX t = yX (bytes (l ++ m)):=by rw [h,ints_app]
theorem yA (l : List UInt8) : (bytes l).size = l.length:=by rw [qV,qT]
theorem extract_ls (s : ByteArray) (a b : Nat) : (s.extract a b).data.toList = (s.data.toList.drop a).take (b - a):=Lib.extract_data s a b
theorem split_v (s p : ByteArray) (ws : List ByteArray) (hw : Lib.splitB p 0 (Lib.countB s p) s = ws) (hs : s.size ≤ 1000000) (h1 : 1 ≤ p.size) : qR Tryz.prog 127 [is s,is p] (.one (.sl .str ws)):=by
  subst hw;exact split_c s p (by omega) h1 (by have:=Lib.countB_le p h1 _ s (Nat.le_refl _);unfold maxLen;omega)
theorem split_size (p : ByteArray) : ∀ (k : Nat) (s : ByteArray),∀ x ∈ Lib.splitB p 0 k s,x.size ≤ s.size
  | 0,s,x,hx=>by rw [List.mem_singleton.1 hx];exact Nat.le_refl _
  | k + 1,s,x,hx=>by
    unfold Lib.splitB at hx;split at hx
    · rw [List.mem_singleton.1 hx];exact Nat.le_refl _
    · rcases List.mem_cons.1 hx with rfl|hx
      · rw [ByteArray.size_extract];omega
      · have:=split_size p k _ x hx;rw [ByteArray.size_extract] at this;omega
theorem split_len (p s : ByteArray) (h1 : 1 ≤ p.size) : (Lib.splitB p 0 (Lib.countB s p) s).length ≤ s.size + 1:=by
  rw [Lib.splitB_all p h1 0 _ s rfl];have:=Lib.countB_le p h1 _ s (Nat.le_refl _);omega
theorem split_ls (p s : ByteArray) : (Lib.splitB p 0 (Lib.countB s p) s).map ls = Lib.split (ls s) (ls p):=Lib.splitB_data p 0 _ s
theorem map_take_succ {α β : Type} (g : α → β) (l : List α) (d : α) (i : Nat) (h : i < l.length) : (l.take (i + 1)).map g = (l.take i).map g ++ [g (l.getD i d)]:=by
  rw [← yQ d h,List.map_append];rfl
theorem ls_inj {s : ByteArray} {l : List UInt8} (h : ls s = l) : s = bytes l:=by rw [← h,xK]
theorem occ_one (l : List UInt8) (c : UInt8) (i : Nat) : Lib.occAt l [c] i = true ↔ l[i]? = some c:=by
  refine ⟨fun h=>Lib.occAt_head rfl h,fun h=>?_⟩;unfold Lib.occAt;obtain ⟨hi,e⟩:=List.getElem?_eq_some_iff.1 h;rw [List.drop_eq_getElem_cons hi,e];simp [List.isPrefixOf]
theorem contains_one (l : List UInt8) (c : UInt8) : Lib.contains l [c] = decide (c ∈ l):=by
  unfold Lib.contains;refine decide_eq_decide.2 ⟨fun h=>?_,fun h=>?_⟩
  · rcases Lib.index_spec l [c] with ⟨e,_⟩|⟨i,_,_,h3,_⟩
    · omega
    · exact List.mem_of_getElem? ((occ_one l c i).1 h3)
  · obtain ⟨i,hi,e⟩:=List.getElem_of_mem h;rcases Lib.index_spec l [c] with ⟨_,h2⟩|⟨i,h1,_⟩
    · have:=h2 i (Nat.le_of_lt hi);rw [(occ_one l c i).2 (by rw [List.getElem?_eq_getElem hi,e])] at this;cases this
    · omega
def blankC (c : UInt8) : Bool:=decide (c = 32) || decide (c = 9)
def blankL (l : List UInt8) : Bool:=decide (1 ≤ l.length) && blankC (l.getD 0 0)
def keyOk (l : List UInt8) : Bool:=(((((decide (1 ≤ l.length) && decide (l.length ≤ 32)) && !blankC (l.getD 0 0)) && !decide (l.getD 0 0 = 35)) && !decide (58 ∈ l)) && !decide (10 ∈ l))
theorem emp {s : ByteArray} : s = ⟨#[]⟩ ↔ s.data.toList.length = 0:=by
  refine ⟨fun h=>by rw [h];rfl,fun h=>?_⟩;have:=List.eq_nil_of_length_eq_zero h;rw [← xK s,show ls s = [] from this];rfl
theorem hasPrefix_one (l : List UInt8) (c : UInt8) : Lib.hasPrefix l [c] = (decide (1 ≤ l.length) && decide (l.getD 0 0 = c)):=by
  unfold Lib.hasPrefix;cases l with
  | nil=>rfl
  | cons d l =>
    have : (c == d) = decide (d = c):=by rw [Bool.eq_iff_iff,beq_iff_eq,decide_eq_true_iff];exact eq_comm
    simp [List.isPrefixOf,this]
theorem keyOk_prog (l : List UInt8) : keyOk l = (!(((decide (l.length = 0) || decide (32 < l.length)) || blankL l) || Lib.hasPrefix l [35]) && (!Lib.contains l [58] && !Lib.contains l [10])):=by
  rw [contains_one,contains_one,hasPrefix_one];unfold keyOk blankL
  by_cases h : 1 ≤ l.length
  · have h0 : ¬ l.length = 0:=by omega
    by_cases h2 : l.length ≤ 32
    · have h3 : ¬ 32 < l.length:=by omega
      simp [h,h0,h2,h3,Bool.and_assoc]
    · have h3 : 32 < l.length:=by omega
      simp [h2,h3]
  · have h0 : l.length = 0:=by omega
    simp [h0]
theorem blank_c (s : ByteArray) (hs : s.size ≤ 1000000000) : qR Tryz.prog 91 [is s] (ib (blankL s.data.toList)):=by
  have hz:=qV s;refine qP (rs:=[2]) Tryz.func91 rfl rfl rfl teOk rfl ?_;refine qC ?_;refine qB ?_;refine qC ?_;refine qB ?_;refine zai (fun h=>trivial) ?_;refine zai (fun h=>⟨⟨⟨h,trivial⟩,trivial⟩,by have h9 : ¬ s = ⟨#[]⟩:=(by simpa [gq] using h);rw [emp] at h9;omega⟩) ?_;refine Or.inl ?_;refine zai (rfl) ?_;refine zei _ (zai (fun h=>⟨⟨⟨h,trivial⟩,trivial⟩,contains_c _ _ (by decide)⟩) ?_);refine zai (by exact fun h=>h) ?_;refine qL ?_;refine ib_eq ?_
  by_cases h : s.data.toList.length = 0
  ·rw [decide_eq_true (emp.2 h),Bool.not_true,Bool.false_and];unfold blankL;rw [h];rfl
  ·rw [decide_eq_false (fun e=>h (emp.1 e)),show s.extract (Int.toNat 0) (Int.toNat 1) = bytes [s.data.toList.getD 0 0] from extract_one (by omega),qT,contains_one];unfold blankL blankC;rw [decide_eq_true (show 1 ≤ s.data.toList.length by omega)];simp
theorem key_c (s : ByteArray) (hs : s.size ≤ 1000000000) : qR Tryz.prog 61 [is s] (ib (keyOk s.data.toList)):=by
  have hz:=qV s;refine qP (rs:=[2]) Tryz.func61 rfl rfl rfl teOk rfl ?_;refine qC ?_;refine qB ?_;refine qC ?_;refine qC ?_;refine qB ?_;refine zai (fun h=>trivial) ?_;refine zai (fun h=>⟨⟨h,trivial⟩,trivial⟩) ?_;refine zai (fun h=>⟨⟨h,trivial⟩,trivial⟩) ?_;refine zai (by first|(intro h;rw [h];rfl)|(intro h;cases h)) ?_;refine zai (fun h=>trivial) ?_;refine Or.inl ?_;refine zai (rfl) ?_;refine zei _ (zai (fun h=>⟨⟨⟨h,trivial⟩,trivial⟩,blank_c _ hs⟩) ?_);refine zai (by first|(intro h;rw [h];rfl)|(intro h;cases h)) ?_;refine zai (fun h=>trivial) ?_;refine Or.inl ?_;refine zai (rfl) ?_;refine zei _ (zai (fun h=>⟨⟨⟨h,trivial⟩,trivial⟩,hasPrefix_c _ _⟩) ?_);refine zai (by first|(intro h;rw [h];rfl)|(intro h;cases h)) ?_;refine qK rfl (fun h17=>?_) (fun h17=>?_)
  ·try simp only [decide_eq_true_eq,Bool.or_eq_true] at h17
   try simp only [zds] at h17
   refine qC ?_;refine qB ?_;refine qL ?_;refine ib_eq ?_;rw [keyOk_prog];rw [emp] at h17;rcases h17 with ((h|h)|h)|h
   ·simp [h]
   ·rw [decide_eq_true (show 32 < s.data.toList.length by omega)];simp
   ·simp [h]
   ·simp [h]
  ·try simp only [decide_eq_false_iff_not,Bool.or_eq_false_iff,Int.not_lt] at h17
   try simp only [zds] at h17
   refine qM ?_;refine qC ?_;refine qB ?_;refine Or.inl ?_;refine zai (rfl) ?_;refine zei _ (zai (contains_c _ _ (by omega)) ?_);refine zai (fun h=>trivial) ?_;refine Or.inl ?_;refine zai (rfl) ?_;refine zei _ (zai (fun h=>⟨⟨⟨h,trivial⟩,trivial⟩,contains_c _ _ (by omega)⟩) ?_);refine zai (fun h=>⟨⟨h,trivial⟩,trivial⟩) ?_;refine zai (by exact fun h=>h) ?_;refine qL ?_;refine ib_eq ?_;rw [keyOk_prog];rw [emp] at h17;obtain ⟨⟨⟨h1,h2⟩,h3⟩,h4⟩:=h17;simp only [h3,h4,decide_eq_false h1,decide_eq_false (show ¬ 32 < s.data.toList.length by omega)];rfl
theorem map_snoc {α β : Type} (f : α → β) {l : List α} {i : Nat} (d : α) (h : i < l.length) : (l.take i).map f ++ [f (l.getD i d)] = (l.take (i + 1)).map f:=(map_take_succ f l d i h).symm
theorem split_mem {s sep w : List UInt8} (h : w ∈ Lib.split s sep) : w.length ≤ s.length:=by
  have : Lib.split s sep = (Lib.splitB (bytes sep) 0 (Lib.countB (bytes s) (bytes sep)) (bytes s)).map ls:=by rw [split_ls];unfold ls;rw [qT,qT]
  rw [this] at h;obtain ⟨x,hx,rfl⟩:=List.mem_map.1 h;have:=split_size _ _ _ x hx;rw [yA,qV] at this;exact this
end Q
end Ab
end Go.Proofs.YtehmiepjeffloaaGreatDoor
namespace Go.Proofs.YtehmiepjeffloaaGreatDoor
open Go.RowKit
namespace Ab
namespace Q
theorem dropWhile_nil {α : Type} {p : α → Bool} : ∀ {l : List α},l.dropWhile p = [] ↔ l.all p = true
  | []=>by simp
  | a :: l=>by
    rw [List.dropWhile_cons,List.all_cons];cases h : p a
    · simp
    · simp [dropWhile_nil (p:=p) (l:=l)]
theorem mem_tw {α : Type} {p : α → Bool} {x : α} : ∀ {l : List α},x ∈ l.takeWhile p → p x = true
  | a :: l,h=>by
    rw [List.takeWhile_cons] at h;split at h
    · rename_i hp;rcases List.mem_cons.1 h with rfl|h
      · exact hp
      · exact mem_tw h
    · cases h
theorem trim_nil (l : List UInt8) : Lib.trimS l [32,9] = [] ↔ l.all blankC = true:=by
  have hp : (fun c : UInt8=>([32,9] : List UInt8).contains c) = blankC:=by
    funext c;unfold blankC;simp
  unfold Lib.trimS Lib.trimLeftS Lib.trimRightS;rw [show (fun x : UInt8=>([32,9] : List UInt8).contains x) = blankC from hp,dropWhile_nil];refine ⟨fun h=>?_,fun h=>?_⟩
  · refine List.all_eq_true.2 fun x hx=>?_
    by_cases hb : blankC x = true
    · exact hb
    · exfalso
      have h2 : x ∈ (l.reverse.dropWhile blankC):=by
        have hs : l.reverse = l.reverse.takeWhile blankC ++ l.reverse.dropWhile blankC:=(List.takeWhile_append_dropWhile).symm;have hm : x ∈ l.reverse:=List.mem_reverse.2 hx;rw [hs] at hm;rcases List.mem_append.1 hm with h3|h3
        · exact absurd (mem_tw h3) hb
        · exact h3
      exact hb (List.all_eq_true.1 h x (List.mem_reverse.2 h2))
  · have : l.reverse.dropWhile blankC = []:=dropWhile_nil.2 (by rw [List.all_reverse];exact h);rw [this];rfl
def stuffL (s : List UInt8) : List UInt8:=if s.all blankC || Lib.hasPrefix s [46] then 46 :: s else s
def partsL (v : List UInt8) : List (List UInt8):=Lib.split v [10]
def firstL (key : List UInt8) (p : List UInt8) : List UInt8:=key ++ [58] ++ (if p = [] then [] else 32 :: p)
def linesL (key v : List UInt8) : List (List UInt8):=firstL key ((partsL v).headD []) :: ((partsL v).drop 1).map fun s=>32 :: stuffL s
def yN (l : List UInt8) : Int:=if 10 ∈ l then 5 else if l.all blankC = true then 1 else if Lib.hasPrefix l [35] = true then 2 else if blankL l = true then 3
  else if ((Lib.cut l [58]).2.2 && keyOk (Lib.cut l [58]).1) = true then 4 else 5
theorem split_ne (v : List UInt8) (sep : List UInt8) : Lib.split v sep ≠ []:=by
  unfold Lib.split;cases Lib.count v sep with
  | zero=>simp [Lib.splitK]
  | succ k=>unfold Lib.splitK;split <;> simp
theorem cut_at {key r : List UInt8} {c : UInt8} (h : c ∉ key) : Lib.cut (key ++ c :: r) [c] = (key,r,true):=by
  have hi : Lib.index (key ++ c :: r) [c] = key.length:=by
    refine Lib.index_first (by simp) ((occ_one _ _ _).2 (by simp)) fun j hj=>Bool.eq_false_iff.2 fun e=>?_
    have:=(occ_one _ _ _).1 e;rw [List.getElem?_append_left hj] at this;exact h (List.mem_of_getElem? this)
  unfold Lib.cut;rw [hi,if_pos (by omega),Int.toNat_natCast,List.take_left];show (key,List.drop (key.length + 1) (key ++ c :: r),true) = _;rw [← List.drop_drop,List.drop_left];rfl
def valueL (l0 : List UInt8) (rest : List (List UInt8)) : List UInt8:=Lib.join (Lib.trimPrefix (Lib.cut l0 [58]).2.1 [32] :: rest.map fun s=>Lib.trimPrefix (s.drop 1) [46]) [10]
def yD : List (List UInt8) → (List UInt8 × List UInt8) × Int
  | []=>(([],[]),2)
  | l0 :: rest=>if yN l0 ≠ 4 ∨ (rest.any fun s=>!decide (yN s = 3)) = true then (([],[]),2) else if 1000 < (valueL l0 rest).length then (([],[]),6) else (((Lib.cut l0 [58]).1,valueL l0 rest),0)
end Q
end Ab
end Go.Proofs.YtehmiepjeffloaaGreatDoor
namespace Go.Proofs.YtehmiepjeffloaaGreatDoor
open Go.Shelf Go.RowKit Go.Lib Go.Proofs
variable {P : Program} {ρ : Ren}
theorem slice_from {t : TypeId} {w : World} (h : P.underlying t = some .string) (s : ByteArray) (k : IntKind) (i : Int) (hi : 0 ≤ i ∧ i ≤ (s.size : Int)) :
    (Instr.slice t (.string s) (some (.int k i)) none none).run P w = .ok (.string (s.extract i.toNat s.size)) w:=by
  simp [Instr.slice,Instr.sliceBounds,Instr.sliceBound,asIntOf,run_underlying h,hi]
set_option maxHeartbeats 4000000 in
set_option maxRecDepth 1000000 in
theorem idxRune_err (L : Lays.n152 P ρ) (s : ByteArray) (w : World) (hascii : ∀ (j : Nat) b,s.data.toList[j]? = some b → b.toNat < 128) :
    Calls P (ρ.f 152) #[.string s,.int .i32 65533] w fun e w'=>e = .returned (.int .i64 (-1)) ∧ Below w.heap.size w w':=by
  have HA : Aside (∀ (j : Nat) b,s.data.toList[j]? = some b → b.toNat < 128):=hascii;clear hascii;have t0:=L.t0;have a0:=L.a0;have z0:=L.z0;have v0:=L.v0;have t3:=L.t3;have a3:=L.a3;have z3:=L.z3;have v3:=L.v3;have t4:=L.t4;have a4:=L.a4;have z4:=L.z4;have v4:=L.v4;have t5:=L.t5;have a5:=L.a5;have z5:=L.z5;have v5:=L.v5;have t9:=L.t9;have a9:=L.a9;have z9:=L.z9;have v9:=L.v9;have t21:=L.t21;have a21:=L.a21;have z21:=L.z21;have v21:=L.v21
  go_enter L.f152,Body.n152_ntmps ρ
  go_wp2
  go_loopg [5,6] s.size (fun g _ _ wx=>∃ i : Nat,i + g = s.size ∧ wx = w.iter s i)
  case atStart=>exact ⟨0,by omega,rfl⟩
  case round =>
    obtain ⟨i,hig,rfl⟩:=hrel;cases gk with
    | zero =>
      obtain rfl : i = s.size:=by omega
      have hnx:=run_next_end (P:=P) w s s.size
      go_wp2
      go_ret
      exact ⟨rfl,(Below.refl _ _).alloc (Nat.le_refl _) _⟩
    | succ g =>
      have hi : i < s.size:=by omega
      obtain ⟨x,hx⟩ : ∃ x : UInt8,s[i]'hi = x:=⟨_,rfl⟩;have hxl : s.data.toList[i]? = some x:=by rw [← hx];exact Lib.data_getElem? s i hi
      have hx128 : x.toNat < 128:=HA.out i x hxl;have hnx:=fun ty=>run_next_ascii (P:=P) w s i ty hi (by rw [hx];exact hx128)
      rw [hx] at hnx;have hne : ((x.toNat : Int) == 65533) = false:=beq_eq_false_iff_ne.2 (by omega);clear hxl hx
      go_wp2
      go_roundg g
      case measure=>omega
      case rel=>exact ⟨i + 1,by omega,rfl⟩
set_option maxHeartbeats 4000000 in
set_option maxRecDepth 1000000 in
theorem idxRune_hi (L : Lays.n152 P ρ) (s : ByteArray) (r : Int) (w : World) (h0 : 128 ≤ r) (h1 : r ≠ 65533) (_hs : s.size < 4294967281) (hascii : ∀ (j : Nat) b,s.data.toList[j]? = some b → b.toNat < 128) :
    Calls P (ρ.f 152) #[.string s,.int .i32 r] w fun e w'=>e = .returned (.int .i64 (-1)) ∧ Below w.heap.size w w':=by
  have HA : Aside (∀ (j : Nat) b,s.data.toList[j]? = some b → b.toNat < 128):=hascii;clear hascii;have mixed:=L.mixed;have t0:=L.t0;have a0:=L.a0;have z0:=L.z0;have v0:=L.v0;have t3:=L.t3;have a3:=L.a3;have z3:=L.z3;have v3:=L.v3;have u3:=run_underlying L.t3;have t4:=L.t4;have a4:=L.a4;have z4:=L.z4;have v4:=L.v4;have t5:=L.t5;have a5:=L.a5;have z5:=L.z5;have v5:=L.v5;have t9:=L.t9;have a9:=L.a9;have z9:=L.z9;have v9:=L.v9;have u9:=run_underlying L.t9;have t21:=L.t21;have a21:=L.a21;have z21:=L.z21;have v21:=L.v21;have u21:=run_underlying L.t21;have e119 : ∀ args w,(callFunc (ρ.f 119) args).run P w = .ok (.enter (ρ.f 119) args) w:=enters_of L.f119 (by kernel_rfl) rfl;have e137 : ∀ args w,(callFunc (ρ.f 137) args).run P w = .ok (.enter (ρ.f 137) args) w:=enters_of L.f137 (by kernel_rfl) rfl;have hne : (r == 65533) = false:=beq_eq_false_iff_ne.2 h1;have hlt : ¬ r < 128:=by omega
  cases hv : Lib.validRune r
  · go_enter L.f152,Body.n152_ntmps ρ
    go_wp2_with (go_at_fn (ρ.f 119);refine (Any.utf8_ValidRune { L with } _ _).mono ?_;rintro e w' ⟨rfl,hw⟩;rw [hw,hv])
    go_ret
    exact ⟨rfl,Below.refl _ _⟩
  · have hv' : Utf8.valid r = true:=(validRune_eq r).trans (by simpa only [Go.validRune,Lib.validRune] using hv);obtain ⟨e2,e4,eb⟩:=encode_facts r hv' h0
    generalize hrs : Utf8.encode r = rs at e2 e4 eb
    have hcv : ∀ w,(convert (ρ.t 21) (ρ.t 9) (.int .i32 r)).run P w = .ok (.string rs) w:=fun w=>by rw [run_convert_int_string w _ _ _ _ (by rw [t21];rfl) t9,hrs]
    go_enter L.f152,Body.n152_ntmps ρ
    go_wp2_with (go_at_fn (ρ.f 119);refine (Any.utf8_ValidRune { L with } _ _).mono ?_;rintro e w' ⟨rfl,hw⟩;rw [hw,hv])
    go_wp2
    go_step3
    go_wp2
    go_loopg [9] 1 (fun g p wx=>p = .int .i64 ((rs.size : Int) - 1) ∧ wx = w)
    case atStart=>exact ⟨rfl,rfl⟩
    case round =>
      obtain ⟨rfl,rfl⟩:=hrel
      by_cases hb : (rs.size : Int) - 1 < (s.size : Int)
      · have hlast : ((rs.size : Int) - 1).toNat = rs.size - 1:=by omega
        obtain ⟨x,hx⟩ : ∃ x : UInt8,s[rs.size - 1]'(by omega) = x:=⟨_,rfl⟩;obtain ⟨y,hy⟩ : ∃ y : UInt8,rs[rs.size - 1]'(by omega) = y:=⟨_,rfl⟩;have hxl : s.data.toList[rs.size - 1]? = some x:=by rw [← hx];exact Lib.data_getElem? s _ (by omega)
        have hx128 : x.toNat < 128:=HA.out _ x hxl;have hy128 : 128 ≤ y.toNat:=by rw [← hy];exact eb (by omega)
        have hi1 : ∀ w,(Instr.index (ρ.t 9) (.string s) (.int .i64 ((rs.size : Int) - 1))).run P w = .ok (.int .u8 x.toNat) w:=fun w=>by
          rw [run_index_string w _ s _ _ t9,dif_pos ⟨by omega,by omega⟩];simp only [hlast,hx]
        have hi2 : ∀ w,(Instr.index (ρ.t 9) (.string rs) (.int .i64 ((rs.size : Int) - 1))).run P w = .ok (.int .u8 y.toNat) w:=fun w=>by
          rw [run_index_string w _ rs _ _ t9,dif_pos ⟨by omega,by omega⟩];simp only [hlast,hy]
        have hs1 : ∀ w,(Instr.slice (ρ.t 9) (.string s) (some (.int .i64 (rs.size : Int))) none none).run P w = .ok (.string (s.extract rs.size s.size)) w:=fun w=>by
          rw [slice_from t9 s _ _ ⟨by omega,by omega⟩];rfl
        have hs2 : ∀ w,(Instr.slice (ρ.t 9) (.string s) (some (.int .i64 ((rs.size : Int) - 1 + 1))) none none).run P w = .ok (.string (s.extract rs.size s.size)) w:=fun w=>by
          rw [show (rs.size : Int) - 1 + 1 = rs.size by omega];exact hs1 w
        have hwr : IntKind.i64.wrap (rs.size : Int) = (rs.size : Int):=wrap_small _ (by omega) (by omega);have hle : (rs.size : Int) ≤ (s.size : Int):=by omega
        have hxy : ((x.toNat : Int) == (y.toNat : Int)) = false:=beq_eq_false_iff_ne.2 (by omega);clear hx hy hxl
        go_wp2
        go_step3
        go_wp2
        go_region_o
        go_wp2
        go_region_with_o (go_at_fn (ρ.f 137);refine (Any.strings_IndexByte { L with } _ _ _).mono ?_;rintro e w' ⟨rfl,hw⟩;rw [hw])
        have hio : indexByte (List.take (s.size - rs.size) (List.drop rs.size s.data.toList)) y = -1:=by
          have hge:=Lib.indexByte_ge (List.take (s.size - rs.size) (List.drop rs.size s.data.toList)) y
          by_cases hm : indexByte (List.take (s.size - rs.size) (List.drop rs.size s.data.toList)) y = -1
          · exact hm
          · exfalso
            obtain ⟨o,ho⟩:=Int.eq_ofNat_of_zero_le (show (0 : Int) ≤ indexByte (List.take (s.size - rs.size) (List.drop rs.size s.data.toList)) y by omega);have h1:=(Lib.indexByte_some ho).1;rw [List.getElem?_take] at h1;split at h1
            · rw [List.getElem?_drop] at h1;have:=HA.out _ _ h1;omega
            · cases h1
        rw [hio]
        go_wp2
        simp only [Exit.noGoto,Exit.inBlock,Exit.then]
        go_ret
        exact ⟨rfl,(Below.refl _ _).drew.drew⟩
      · go_wp2
        go_ret
        exact ⟨rfl,Below.refl _ _⟩
theorem idxRune_no (L : Lays.n152 P ρ) (s : ByteArray) (r : Int) (w : World) (h0 : 128 ≤ r) (hs : s.size < 4294967281) (hascii : ∀ (j : Nat) b,s.data.toList[j]? = some b → b.toNat < 128) :
    Calls P (ρ.f 152) #[.string s,.int .i32 r] w fun e w'=>e = .returned (.int .i64 (-1)) ∧ Below w.heap.size w w':=by
  by_cases h : r = 65533
  · subst h;exact idxRune_err L s w hascii
  · exact idxRune_hi L s r w h0 h hs hascii
theorem decode_wide (s : ByteArray) (i : Nat) (h : i < s.size) (ha : 128 ≤ (s[i]'h).toNat) : ∀ j,j < (Utf8.decode s i).2 → ∃ b,s.data.toList[i + j]? = some b ∧ 128 ≤ b.toNat:=by
  intro j hj;have key : ∀ j,i + j < s.size → 128 ≤ (s.get! (i + j)).toNat → ∃ b,s.data.toList[i + j]? = some b ∧ 128 ≤ b.toNat:=by
    intro j hl hb;refine ⟨s[i + j]'hl,Lib.data_getElem? s _ hl,?_⟩;have:=get_at s (i + j) hl;rw [Nat.add_zero] at this
    rwa [← this]
  have h0 : 128 ≤ (s.get! i).toNat:=by
    have:=get_at s i h;rw [Nat.add_zero] at this
    rwa [this]
  rw [Lib.decode_at] at hj;unfold Lib.decodeN at hj;have k0:=key 0 (by omega) (by simpa using h0);have k1:=key 1;have k2:=key 2;have k3:=key 3;clear key;split at hj
  · omega
  · split at hj
    · rename_i hc;split at hj
      · have : j = 0 ∨ j = 1:=by simp only at hj;omega
        rcases this with rfl|rfl
        · exact k0
        · exact k1 (by omega) (by omega)
      · obtain rfl : j = 0:=by simp only at hj;omega
        exact k0
    · split at hj
      · rename_i hc;split at hj
        · have : j = 0 ∨ j = 1 ∨ j = 2:=by simp only at hj;omega
          rcases this with rfl|rfl|rfl
          · exact k0
          · exact k1 (by omega) (by omega)
          · exact k2 (by omega) (by omega)
        · obtain rfl : j = 0:=by simp only at hj;omega
          exact k0
      · split at hj
        · rename_i hc;split at hj
          · have : j = 0 ∨ j = 1 ∨ j = 2 ∨ j = 3:=by simp only at hj;omega
            rcases this with rfl|rfl|rfl|rfl
            · exact k0
            · exact k1 (by omega) (by omega)
            · exact k2 (by omega) (by omega)
            · exact k3 (by omega) (by omega)
          · obtain rfl : j = 0:=by simp only at hj;omega
            exact k0
        · obtain rfl : j = 0:=by simp only at hj;omega
          exact k0
theorem noAny_add {s chars : List UInt8} {i n : Nat} (h : NoAny s chars i) (hn : ∀ j,j < n → ∃ b,s[i + j]? = some b ∧ 128 ≤ b.toNat) (hc : ∀ (j : Nat) b,chars[j]? = some b → b.toNat < 128) : NoAny s chars (i + n):=by
  intro j b hj hb
  by_cases hji : j < i
  · exact h j b hji hb
  · obtain ⟨b',h1,h2⟩:=hn (j - i) (by omega);rw [show i + (j - i) = j by omega,hb] at h1;cases h1;cases hcc : chars.contains b
    · rfl
    · exfalso
      have hm:=List.contains_iff_mem.1 hcc;obtain ⟨q,hq⟩:=List.getElem?_of_mem hm;have:=hc q b hq;omega
set_option maxHeartbeats 8000000 in
set_option maxRecDepth 1000000 in
theorem idxAny_short (L : Lays.n153 P ρ) (s chars : ByteArray) (w : World) (h2 : 2 ≤ chars.size) (h8 : s.size ≤ 8) (hcs : chars.size < 4294967281) (hascii : ∀ (j : Nat) b,chars.data.toList[j]? = some b → b.toNat < 128) :
    Calls P (ρ.f 153) #[.string s,.string chars] w fun e w'=>e = .returned (.int .i64 (Lib.indexAny s.data.toList chars.data.toList)) ∧ Below w.heap.size w w':=by
  have HA : Aside (∀ (j : Nat) b,chars.data.toList[j]? = some b → b.toNat < 128):=hascii;clear hascii;have hemp : chars.toList.isEmpty = false:=by
    rw [Lib.toList_data];cases h : chars.data.toList with
    | nil=>have:=Lib.size_eq chars;rw [h,List.length_nil] at this;omega
    | cons _ _=>rfl
  have hn1 : ((chars.size : Int) == 1) = false:=beq_eq_false_iff_ne.2 (by omega);have h8z : decide ((8 : Int) < (s.size : Int)) = false:=decide_eq_false (by omega);have t3:=L.t3;have a3:=L.a3;have z3:=L.z3;have v3:=L.v3;have t4:=L.t4;have a4:=L.a4;have z4:=L.z4;have v4:=L.v4;have t5:=L.t5;have a5:=L.a5;have z5:=L.z5;have v5:=L.v5;have t9:=L.t9;have a9:=L.a9;have z9:=L.z9;have v9:=L.v9;have t21:=L.t21;have a21:=L.a21;have z21:=L.z21;have v21:=L.v21;have e152 : ∀ args w,(callFunc (ρ.f 152) args).run P w = .ok (.enter (ρ.f 152) args) w:=enters_of L.f152 (by kernel_rfl) rfl;have e226 : ∀ args w,(callFunc (ρ.f 226) args).run P w = .ok (.enter (ρ.f 226) args) w:=enters_of L.f226 (by kernel_rfl) rfl
  go_enter L.f153,Body.n153_ntmps ρ
  go_wp2_with (go_at_fn (ρ.f 226);refine (Any.strings_shouldUseASCIISet { L with } _ _).mono ?_;rintro e w' ⟨rfl,hw⟩;rw [hw,h8z])
  go_loopg [9,10] s.size (fun g _ _ wx=>∃ i : Nat,i + g = s.size ∧ Aside (wx.heap[w.heap.size]? = some (.stringIter s i)) ∧ Aside (Below w.heap.size w wx) ∧ Aside (Lib.NoAny s.data.toList chars.data.toList i))
  case atStart=>exact ⟨0,by omega,World.iter_heap w s 0,(Below.refl _ _).alloc (Nat.le_refl _) _,Lib.NoAny.zero _ _⟩
  case round =>
    obtain ⟨i,hig,HI,HB,HN⟩:=hrel;cases gk with
    | zero =>
      obtain rfl : i = s.size:=by omega
      have hnx:=fun ty=>run_next_end_at (P:=P) wr w.heap.size s s.size ty HI.out (by omega)
      go_wp2
      go_ret
      exact ⟨by rw [Lib.indexAny_none (by rw [← Lib.size_eq];exact HN.out)];rfl,HB.out⟩
    | succ g =>
      have hi : i < s.size:=by omega
      obtain ⟨x,hx⟩ : ∃ x : UInt8,s[i]'hi = x:=⟨_,rfl⟩
      by_cases hx128 : x.toNat < 128
      · have hnx:=fun ty=>run_next_ascii_at (P:=P) wr w.heap.size s i ty HI.out hi (by rw [hx];exact hx128)
        rw [hx] at hnx;have Hx : Aside (s.data.toList[i]? = some x):=by rw [← hx];exact Lib.data_getElem? s i hi
        have HW : Aside (Below w.heap.size w (wr.iterAt w.heap.size s (i + 1)) ∧ (wr.iterAt w.heap.size s (i + 1)).heap[w.heap.size]? = some (.stringIter s (i + 1))):=⟨below_iterAt HB.out (Nat.le_refl _) s _,iterAt_heap _ _ _ _ _ HI.out⟩;clear hx
        generalize wr.iterAt w.heap.size s (i + 1) = wz at hnx HW
        have hcon:=Lib.contains_iff_indexByte chars.data.toList x;have hback : ((x.toNat : Int)).toNat.toUInt8 = x:=by simp
        cases hin : chars.data.toList.contains x
        · rw [hin] at hcon;have hlt : ¬ ((0 : Int) ≤ Lib.indexByte chars.data.toList x):=of_decide_eq_false hcon.symm;clear hcon
          go_wp2_with (go_at_fn (ρ.f 152);refine (Any.strings_IndexRune_ascii { L with } _ _ _ (by omega) (by omega)).mono ?_;rintro e w' ⟨rfl,hw⟩;rw [hw,hback])
          go_roundg g
          case measure=>omega
          case rel=>exact ⟨i + 1,by omega,HW.out.2,HW.out.1,HN.out.succ Hx.out hin⟩
        · rw [hin] at hcon;have hge : (0 : Int) ≤ Lib.indexByte chars.data.toList x:=of_decide_eq_true hcon.symm;clear hcon
          go_wp2_with (go_at_fn (ρ.f 152);refine (Any.strings_IndexRune_ascii { L with } _ _ _ (by omega) (by omega)).mono ?_;rintro e w' ⟨rfl,hw⟩;rw [hw,hback])
          go_ret
          exact ⟨by rw [Lib.indexAny_hit HN.out Hx.out hin];rfl,HW.out.1⟩
      · have hnx:=fun ty=>run_next_any_at (P:=P) wr w.heap.size s i ty HI.out hi
        have hwide:=decode_wide s i hi (by rw [hx];omega);obtain ⟨hr0,hr1⟩:=decode_high s i hi (by rw [hx];omega);have hrm:=decode_le s i
        generalize Utf8.decode s i = rn at hnx hwide hr0 hr1 hrm
        obtain ⟨r,n⟩:=rn;simp only at hnx hwide hr0 hr1 hrm;have hin : i + n ≤ s.size:=by
          obtain ⟨b,hb,_⟩:=hwide (n - 1) (by omega);have:=(List.getElem?_eq_some_iff.1 hb).1;rw [← Lib.size_eq] at this;omega
        have HN' : Aside (Lib.NoAny s.data.toList chars.data.toList (i + n)):=noAny_add HN.out hwide HA.out;have HW : Aside (Below w.heap.size w (wr.iterAt w.heap.size s (i + n)) ∧ (wr.iterAt w.heap.size s (i + n)).heap[w.heap.size]? = some (.stringIter s (i + n)) ∧ w.heap.size < (wr.iterAt w.heap.size s (i + n)).heap.size) :=
          ⟨below_iterAt HB.out (Nat.le_refl _) s _,iterAt_heap _ _ _ _ _ HI.out,(Array.getElem?_eq_some_iff.1 (iterAt_heap _ _ _ _ (i + n) HI.out)).1⟩
        clear hx hwide
        generalize wr.iterAt w.heap.size s (i + n) = wz at hnx HW
        go_wp2_with (go_at_fn (ρ.f 152);refine (idxRune_no { L with } chars _ _ (by omega) hcs HA.out).mono ?_;rintro e w' ⟨rfl,hw⟩)
        go_roundg (s.size - (i + n))
        case measure=>omega
        case rel=>exact ⟨i + n,by omega,(hw.block _ HW.out.2.2).trans HW.out.2.1,HW.out.1.trans (hw.mono (Nat.le_of_lt HW.out.2.2)),HN'.out⟩
theorem idxAny (L : Lays.n153 P ρ) (h116 : (P.info? (ρ.t 116)).map (fun i=>(i.zero,i.size)) = some (some (.agg (Array.replicate 256 (.bool false))),256)) (s chars : ByteArray) (w : World) (hs : s.size < 4294967281) (hcs : chars.size < 4294967281) (h2 : 2 ≤ chars.size)
    (hac : ∀ (j : Nat) b,chars.data.toList[j]? = some b → b.toNat < 128) :
    Calls P (ρ.f 153) #[.string s,.string chars] w fun e w'=>e = .returned (.int .i64 (Lib.indexAny s.data.toList chars.data.toList)) ∧ Below w.heap.size w w':=by
  by_cases h8 : s.size ≤ 8
  · exact idxAny_short L s chars w h2 h8 hcs hac
  · refine (Any.strings_IndexAny_long L (zero_of_info h116).1 (zero_of_info h116).2 s chars w h2 (by omega) hs hcs hac).mono fun e w' ⟨h1,h2⟩=>⟨h1,?_⟩
    rw [h2];exact ((Below.refl _ _).alloc (Nat.le_refl _) _).alloc (by simp) _
set_option maxHeartbeats 1000000 in
theorem conAny (L : Lays.n150 P ρ) (h116 : (P.info? (ρ.t 116)).map (fun i=>(i.zero,i.size)) = some (some (.agg (Array.replicate 256 (.bool false))),256)) (s chars : ByteArray) (w : World) (hs : s.size < 4294967281) (hcs : chars.size < 4294967281) (h2 : 2 ≤ chars.size)
    (hac : ∀ (j : Nat) b,chars.data.toList[j]? = some b → b.toNat < 128) :
    Calls P (ρ.f 150) #[.string s,.string chars] w fun e w'=>e = .returned (.bool (Lib.containsAny s.data.toList chars.data.toList)) ∧ Below w.heap.size w w':=by
  have c:=idxAny { L with } h116 s chars w hs hcs h2 hac;have t3:=L.t3;have a3:=L.a3;have z3:=L.z3;have v3:=L.v3;have t4:=L.t4;have a4:=L.a4;have z4:=L.z4;have v4:=L.v4;have t9:=L.t9;have a9:=L.a9;have z9:=L.z9;have v9:=L.v9;have e153 : ∀ args w,(callFunc (ρ.f 153) args).run P w = .ok (.enter (ρ.f 153) args) w:=enters_of L.f153 (by kernel_rfl) rfl
  go_enter L.f150,Body.n150_ntmps ρ
  go_wp2_with (go_at_fn (ρ.f 153);refine c.mono ?_;rintro e w' ⟨rfl,hw⟩)
  go_ret
  exact ⟨rfl,hw⟩
end Go.Proofs.YtehmiepjeffloaaGreatDoor
namespace Go.Proofs.YtehmiepjeffloaaGreatDoor
open Go.RowKit
namespace Ab
namespace Q
def dblL : List UInt8 → List UInt8
  | []=>[]
  | c :: r=>if c = 34 then 34 :: 34 :: dblL r else c :: dblL r
def quoL (s : List UInt8) : List UInt8:=34 :: (dblL s ++ [34])
def oddC (c : UInt8) : Bool:=c == 44 || c == 34 || c == 10 || c == 13
def xG (s : List UInt8) (alone : Bool) : List UInt8:=if ((s.isEmpty && alone) || s.any oddC) = true then quoL s else s
def shLine (row : List (List UInt8)) : List UInt8:=Lib.join (row.map fun s=>xG s (decide (row.length = 1))) [44] ++ [10]
def yK (rows : List (List (List UInt8))) : List UInt8:=(rows.map shLine).flatten
def xB {α : Type} (rows : List (List α)) : Bool:=rows.all fun r=>!r.isEmpty
def inQ : List UInt8 → Option (List UInt8 × List UInt8)
  | []=>none
  | [c]=>if c = 34 then some ([],[]) else none
  | c :: d :: r=>if c = 34 then (if d = 34 then (inQ r).map fun p=>(34 :: p.1,p.2) else some ([],d :: r)) else (inQ (d :: r)).map fun p=>(c :: p.1,p.2)
def spanS : List UInt8 → Option (List UInt8 × List UInt8)
  | []=>none
  | c :: r=>if c = 44 ∨ c = 10 then some ([],c :: r) else (spanS r).map fun p=>(c :: p.1,p.2)
def shNext : List UInt8 → Option (List UInt8 × List UInt8)
  | []=>none
  | c :: r=>if c = 34 then inQ r else spanS (c :: r)
def shRow (t : List UInt8) : Option (List (List UInt8) × List UInt8) :=
  match shNext t with
  | none=>none
  | some (_,[])=>none
  | some (s,c :: r) =>
    if _h : r.length < t.length then
      if c = 10 then some ([s],r) else if c = 44 then (shRow r).map fun p=>(s :: p.1,p.2) else none
    else none
termination_by t.length
def shRows (t : List UInt8) : Option (List (List (List UInt8))) :=
  match t with
  | []=>some []
  | c :: r=>match shRow (c :: r) with
    | none=>none
    | some (x,more)=>if _h : more.length < (c :: r).length then (shRows more).map (x :: ·) else none
termination_by t.length
def shReadP (t : List UInt8) : Option (List (List (List UInt8))) :=
  match shRows t with
  | none=>none
  | some out=>if xB out = true ∧ yK out = t then some out else none
def shMach : List UInt8 → List (List (List UInt8)) → List (List UInt8) → List UInt8 → Bool → List (List (List UInt8))
  | [],out,_,_,_=>out
  | [c],out,row,cell,inside =>
    if c = 34 then out else if inside = true then out else if c = 10 then out ++ [row ++ [cell]] else out
  | c :: d :: r,out,row,cell,inside =>
    if c = 34 then
      (if inside = true ∧ d = 34 then shMach r out row (cell ++ [34]) inside else shMach (d :: r) out row cell (!inside))
    else if inside = true then shMach (d :: r) out row (cell ++ [c]) inside
    else if c = 44 then shMach (d :: r) out (row ++ [cell]) [] inside
    else if c = 10 then shMach (d :: r) (out ++ [row ++ [cell]]) [] [] inside
    else shMach (d :: r) out row (cell ++ [c]) inside
def shReadR (t : List UInt8) : Option (List (List (List UInt8))):=if yK (shMach t [] [] [] false) = t then some (shMach t [] [] [] false) else none
theorem inQ_dbl : ∀ (s : List UInt8) (c : UInt8) (r : List UInt8),c ≠ 34 → inQ (dblL s ++ 34 :: c :: r) = some (s,c :: r)
  | [],c,r,h=>by simp [dblL,inQ,h]
  | x :: s,c,r,h=>by
    have ih:=inQ_dbl s c r h
    by_cases hx : x = 34
    · subst hx;simp only [dblL,if_true,List.cons_append];rw [inQ,if_pos rfl,if_pos rfl,ih];rfl
    · simp only [dblL,hx,if_false,List.cons_append];cases hd : dblL s ++ 34 :: c :: r with
      | nil=>simp at hd
      | cons d l =>
        rw [inQ,if_neg hx,← hd,ih];rfl
theorem spanS_at : ∀ (s : List UInt8) (c : UInt8) (r : List UInt8),(c = 44 ∨ c = 10) → (∀ x ∈ s,¬ (x = 44 ∨ x = 10)) → spanS (s ++ c :: r) = some (s,c :: r)
  | [],c,r,hc,_=>by simp only [List.nil_append,spanS,if_pos hc]
  | x :: s,c,r,hc,hs=>by
    have ih:=spanS_at s c r hc fun y hy=>hs y (List.mem_cons_of_mem _ hy)
    simp only [List.cons_append,spanS,if_neg (hs x (List.mem_cons_self ..)),ih,Option.map_some]
theorem shodd_no {s : List UInt8} (h : s.any oddC = false) {x : UInt8} (hx : x ∈ s) : x ≠ 44 ∧ x ≠ 34 ∧ x ≠ 10:=by
  have:=List.any_eq_false.1 h x hx;simp only [oddC,Bool.or_eq_true,beq_iff_eq,not_or] at this;exact ⟨this.1.1.1,this.1.1.2,this.1.2⟩
theorem shnext_cell (s : List UInt8) (al : Bool) (c : UInt8) (r : List UInt8) (hc : c = 44 ∨ c = 10) : shNext (xG s al ++ c :: r) = some (s,c :: r):=by
  have hc34 : c ≠ 34:=by rcases hc with rfl|rfl <;> decide
  unfold xG;split
  · simp only [quoL,List.cons_append,List.append_assoc,List.nil_append,shNext,if_true];exact inQ_dbl s c r hc34
  · rename_i h;have h2 : s.any oddC = false:=by
      cases hh : s.any oddC
      · rfl
      · rw [hh,Bool.or_true] at h;exact absurd rfl h
    have hs : ∀ x ∈ s,¬ (x = 44 ∨ x = 10):=fun x hx hx'=>by
      have:=shodd_no h2 hx;rcases hx' with rfl|rfl
      · exact this.1 rfl
      · exact this.2.2 rfl
    have:=spanS_at s c r hc hs;cases s with
    | nil =>
      simp only [List.nil_append] at this ⊢;simp only [shNext,if_neg hc34];exact this
    | cons x s =>
      simp only [List.cons_append] at this ⊢;simp only [shNext,if_neg (shodd_no h2 (List.mem_cons_self ..)).2.1];exact this
theorem join_cons2 (a b : List UInt8) (l : List (List UInt8)) : Lib.join (a :: b :: l) [44] = a ++ 44 :: Lib.join (b :: l) [44]:=by
  simp [Lib.join,List.intercalate]
theorem shrow_line (al : Bool) : ∀ (row : List (List UInt8)) (rest : List UInt8),row ≠ [] → shRow (Lib.join (row.map fun s=>xG s al) [44] ++ 10 :: rest) = some (row,rest)
  | [],_,h=>absurd rfl h
  | [s],rest,_=>by
    have h1 : Lib.join ([s].map fun s=>xG s al) [44] = xG s al:=by simp [Lib.join,List.intercalate]
    rw [h1,shRow,shnext_cell s al 10 rest (.inr rfl)];simp;omega
  | s :: t :: l,rest,_=>by
    have ih:=shrow_line al (t :: l) rest (by simp);have h1 : Lib.join ((s :: t :: l).map fun s=>xG s al) [44] ++ 10 :: rest = xG s al ++ 44 :: (Lib.join ((t :: l).map fun s=>xG s al) [44] ++ 10 :: rest):=by
      simp only [List.map_cons,join_cons2];simp
    rw [h1,shRow,shnext_cell s al 44 _ (.inl rfl)];simp only;rw [dif_pos (by simp;omega),if_neg (by decide),if_pos trivial,ih];rfl
theorem shrow_lineL (row : List (List UInt8)) (rest : List UInt8) (h : row ≠ []) : shRow (shLine row ++ rest) = some (row,rest):=by
  have:=shrow_line (decide (row.length = 1)) row rest h
  simpa [shLine] using this
theorem shline_ne (row : List (List UInt8)) : shLine row ≠ []:=by simp [shLine]
theorem rows_write : ∀ (rows : List (List (List UInt8))),xB rows = true → shRows (yK rows) = some rows
  | [],_=>by simp [yK,shRows]
  | row :: rows,h=>by
    simp only [xB,List.all_cons,Bool.and_eq_true,Bool.not_eq_true',List.isEmpty_eq_false_iff] at h;have ih:=rows_write rows (by simpa [xB] using h.2);have h1 : yK (row :: rows) = shLine row ++ yK rows:=rfl;have h2:=shrow_lineL row (yK rows) h.1;rw [h1];cases hl : shLine row with
    | nil=>exact absurd hl (shline_ne row)
    | cons c l =>
      rw [hl,List.cons_append] at h2;rw [List.cons_append,shRows,h2];simp only;rw [dif_pos (by simp;omega),ih];rfl
theorem shread_write {rows : List (List (List UInt8))} (h : xB rows = true) : shReadP (yK rows) = some rows:=by
  unfold shReadP;rw [rows_write rows h];simp [h]
theorem shindex_at {key r : List UInt8} {c : UInt8} (h : c ∉ key) : Lib.index (key ++ c :: r) [c] = key.length:=by
  refine Lib.index_first (by simp) ((occ_one _ _ _).2 (by simp)) fun j hj=>Bool.eq_false_iff.2 fun e=>?_
  have:=(occ_one _ _ _).1 e;rw [List.getElem?_append_left hj] at this;exact h (List.mem_of_getElem? this)
theorem shindex_no {l : List UInt8} {c : UInt8} (h : c ∉ l) : Lib.index l [c] = -1:=Lib.index_none fun _ _=>Bool.eq_false_iff.2 fun e=>h (List.mem_of_getElem? ((occ_one _ _ _).1 e))
theorem shcut_no {l : List UInt8} {c : UInt8} (h : c ∉ l) : Lib.cut l [c] = (l,[],false):=by
  unfold Lib.cut;rw [shindex_no h,if_neg (by omega)]
theorem dbl_no : ∀ {s : List UInt8},34 ∉ s → dblL s = s
  | [],_=>rfl
  | c :: r,h=>by
    rw [List.mem_cons,not_or] at h;rw [dblL,if_neg (fun e=>h.1 e.symm),dbl_no h.2]
theorem dbl_at : ∀ {p : List UInt8} (r : List UInt8),34 ∉ p → dblL (p ++ 34 :: r) = p ++ 34 :: 34 :: dblL r
  | [],r,_=>by simp [dblL]
  | c :: p,r,h=>by
    rw [List.mem_cons,not_or] at h;rw [List.cons_append,dblL,if_neg (fun e=>h.1 e.symm),dbl_at r h.2];rfl
theorem repK_dbl : ∀ (k : Nat) (s : List UInt8),Lib.count s [34] ≤ k → Lib.replaceK [34] [34,34] k s = dblL s
  | 0,s,h=>by
    have hn : 34 ∉ s:=fun hm=>by
      obtain ⟨p,r,e,hp⟩:=List.eq_append_cons_of_mem hm;have:=Lib.count_hit (s:=s) (sub:=[34]) (by simp) (by rw [e];exact shindex_at hp);omega
    rw [dbl_no hn];rfl
  | k + 1,s,h=>by
    by_cases hm : 34 ∈ s
    · obtain ⟨p,r,e,hp⟩:=List.eq_append_cons_of_mem hm;have hi : Lib.index s [34] = p.length:=by rw [e];exact shindex_at hp
      have hc:=Lib.count_hit (s:=s) (sub:=[34]) (by simp) hi;have hd : s.drop (p.length + 1) = r:=by rw [e,← List.drop_drop,List.drop_left];rfl
      rw [show p.length + [(34 : UInt8)].length = p.length + 1 from rfl,hd] at hc;rw [Lib.replaceK_hit _ _ _ _ _ hi,show p.length + [(34 : UInt8)].length = p.length + 1 from rfl,hd,repK_dbl k r (by omega),e,dbl_at r hp,List.take_left];simp
    · rw [dbl_no hm,Lib.replaceK,shindex_no hm];rfl
theorem rep_dbl (s : List UInt8) : Lib.replaceAll s [34] [34,34] = dblL s:=by
  unfold Lib.replaceAll Lib.replace Lib.replaceNum;rw [if_neg (by decide),if_pos (.inl (by decide))];exact repK_dbl _ _ (Nat.le_refl _)
theorem dbl_len : ∀ s : List UInt8,(dblL s).length ≤ 2 * s.length
  | []=>by simp [dblL]
  | c :: r=>by
    have:=dbl_len r;unfold dblL;split <;> simp <;> omega
theorem any_odd : ∀ s : List UInt8,Lib.containsAny s [44,34,10,13] = s.any oddC
  | []=>rfl
  | b :: l=>by
    have ih:=any_odd l;have hb : ([44,34,10,13] : List UInt8).contains b = oddC b:=by simp only [oddC,List.contains_cons,List.contains_nil,Bool.or_false,Bool.or_assoc]
    have hg:=Lib.indexAny_ge [44,34,10,13] l;unfold Lib.containsAny at ih ⊢;rw [List.any_cons,← ih,Lib.indexAny,hb];cases oddC b
    · simp only [Bool.false_eq_true,if_false,Bool.false_or];split
      · rename_i h;rw [beq_iff_eq.1 h]
      · rename_i h;have h : Lib.indexAny l [44,34,10,13] ≠ -1:=fun e=>h (beq_iff_eq.2 e)
        rw [decide_eq_true (by omega),decide_eq_true (by omega)]
    · simp
theorem span_ix : ∀ l : List UInt8,(Lib.indexAny l [44,10] < 0 → spanS l = none) ∧ (0 ≤ Lib.indexAny l [44,10] → spanS l = some (l.take (Lib.indexAny l [44,10]).toNat,l.drop (Lib.indexAny l [44,10]).toNat) ∧ (Lib.indexAny l [44,10]).toNat ≤ l.length)
  | []=>⟨fun _=>rfl,fun h=>by simp [Lib.indexAny] at h⟩
  | b :: l=>by
    obtain ⟨ih1,ih2⟩:=span_ix l;have hg:=Lib.indexAny_ge [44,10] l;have hb : ([44,10] : List UInt8).contains b = true ↔ (b = 44 ∨ b = 10):=by simp
    by_cases h : b = 44 ∨ b = 10
    · have e : Lib.indexAny (b :: l) [44,10] = 0:=by rw [Lib.indexAny,if_pos (hb.2 h)]
      rw [e];exact ⟨fun h=>by omega,fun _=>⟨by rw [spanS,if_pos h];rfl,Nat.zero_le _⟩⟩
    · have e : Lib.indexAny (b :: l) [44,10] = if Lib.indexAny l [44,10] == -1 then -1 else Lib.indexAny l [44,10] + 1:=by rw [Lib.indexAny,if_neg (fun h'=>h (hb.1 h'))]
      rw [e,spanS,if_neg h]
      by_cases hm : Lib.indexAny l [44,10] = -1
      · rw [hm];exact ⟨fun _=>by rw [ih1 (by omega)];rfl,fun h=>absurd h (by decide)⟩
      · rw [if_neg (fun h'=>hm (beq_iff_eq.1 h'))];refine ⟨fun h=>by omega,fun _=>?_⟩;obtain ⟨h1,h2⟩:=ih2 (by omega);rw [h1,show (Lib.indexAny l [44,10] + 1).toNat = (Lib.indexAny l [44,10]).toNat + 1 by omega];exact ⟨rfl,by simp;omega⟩
theorem inQ_no : ∀ {l : List UInt8},34 ∉ l → inQ l = none
  | [],_=>rfl
  | [c],h=>by
    rw [List.mem_singleton] at h;rw [inQ,if_neg (fun e=>h e.symm)]
  | c :: d :: r,h=>by
    rw [List.mem_cons,not_or] at h;rw [inQ,if_neg (fun e=>h.1 e.symm),inQ_no h.2];rfl
theorem inQ_at : ∀ {p : List UInt8} (m : List UInt8),34 ∉ p → inQ (p ++ 34 :: m) = if Lib.hasPrefix m [34] = true then (inQ (m.drop 1)).map (fun q=>(p ++ 34 :: q.1,q.2)) else some (p,m)
  | [],[],_=>by simp [inQ,Lib.hasPrefix]
  | [],d :: r,_=>by
    rw [List.nil_append,inQ,if_pos rfl]
    by_cases h : d = 34
    · subst h;simp [Lib.hasPrefix]
    · rw [if_neg h,if_neg (by simp [Lib.hasPrefix];exact fun e=>h e.symm)]
  | c :: p,m,h=>by
    rw [List.mem_cons,not_or] at h;have ih:=inQ_at m h.2;rw [List.cons_append];cases hd : p ++ 34 :: m with
    | nil=>simp at hd
    | cons d l =>
      rw [inQ,if_neg (fun e=>h.1 e.symm),← hd,ih];split
      · rw [Option.map_map];rfl
      · rfl
theorem inQ_cut (l : List UInt8) : inQ l = if (Lib.cut l [34]).2.2 = true then (if Lib.hasPrefix (Lib.cut l [34]).2.1 [34] = true then (inQ ((Lib.cut l [34]).2.1.drop 1)).map (fun q=>((Lib.cut l [34]).1 ++ 34 :: q.1,q.2)) else some ((Lib.cut l [34]).1,(Lib.cut l [34]).2.1)) else none:=by
  by_cases hm : 34 ∈ l
  · obtain ⟨p,r,e,hp⟩:=List.eq_append_cons_of_mem hm;rw [e,cut_at hp,inQ_at r hp];rfl
  · rw [shcut_no hm,inQ_no hm];rfl
theorem shcut_len {l : List UInt8} (h : (Lib.cut l [34]).2.2 = true) : (Lib.cut l [34]).1.length + 1 + (Lib.cut l [34]).2.1.length = l.length:=by
  by_cases hm : 34 ∈ l
  · obtain ⟨p,r,e,hp⟩:=List.eq_append_cons_of_mem hm;rw [e,cut_at hp];simp;omega
  · rw [shcut_no hm] at h;cases h
theorem inQ_len : ∀ {l a b : List UInt8},inQ l = some (a,b) → a.length + b.length ≤ l.length
  | [],_,_,h=>by simp [inQ] at h
  | [c],a,b,h=>by
    rw [inQ] at h;split at h
    · cases h;simp
    · cases h
  | c :: d :: r,a,b,h=>by
    rw [inQ] at h;split at h
    · split at h
      · cases hq : inQ r with
        | none=>rw [hq] at h;cases h
        | some q =>
          rw [hq] at h;cases h;have:=inQ_len (a:=q.1) (b:=q.2) hq;simp;omega
      · cases h;simp
    · cases hq : inQ (d :: r) with
      | none=>rw [hq] at h;cases h
      | some q =>
        rw [hq] at h;cases h;have:=inQ_len (a:=q.1) (b:=q.2) hq;simp at this ⊢;omega
theorem shspan_len : ∀ {l a b : List UInt8},spanS l = some (a,b) → a.length + b.length ≤ l.length
  | [],_,_,h=>by cases h
  | c :: r,a,b,h=>by
    rw [spanS] at h;split at h
    · cases h;simp
    · cases hq : spanS r with
      | none=>rw [hq] at h;cases h
      | some q =>
        rw [hq] at h;cases h;have:=shspan_len (a:=q.1) (b:=q.2) hq;simp;omega
theorem shnext_len {l a b : List UInt8} (h : shNext l = some (a,b)) : a.length + b.length ≤ l.length:=by
  cases l with
  | nil=>cases h
  | cons c r =>
    rw [shNext] at h;split at h
    · have:=inQ_len h;simp;omega
    · exact shspan_len h
theorem shrow_eq (t : List UInt8) : shRow t = match shNext t with
    | none=>none
    | some (_,[])=>none
    | some (s,c :: r)=>if c = 10 then some ([s],r) else if c = 44 then (shRow r).map fun p=>(s :: p.1,p.2) else none:=by
  rw [shRow];split
  · rfl
  · rfl
  · rename_i s c r h;have:=shnext_len h;simp only [List.length_cons] at this;rw [dif_pos (by omega)]
theorem shrow_len (n : Nat) : ∀ {t : List UInt8} {row : List (List UInt8)} {more : List UInt8},t.length ≤ n → shRow t = some (row,more) → more.length < t.length:=by
  induction n with
  | zero =>
    intro t row more hn h;have : t = []:=List.length_eq_zero_iff.1 (by omega);subst this;rw [shrow_eq] at h;cases h
  | succ n ih =>
    intro t row more hn h;rw [shrow_eq] at h;split at h
    · cases h
    · cases h
    · rename_i s c r hx;have:=shnext_len hx;simp only [List.length_cons] at this;split at h
      · cases h;omega
      · split at h
        · cases hq : shRow r with
          | none=>rw [hq] at h;cases h
          | some q =>
            rw [hq] at h;cases h;have:=ih (t:=r) (row:=q.1) (more:=q.2) (by omega) hq;omega
        · cases h
theorem shrows_eq (t : List UInt8) (h0 : t ≠ []) : shRows t = match shRow t with
    | none=>none
    | some (x,more)=>(shRows more).map (x :: ·):=by
  cases t with
  | nil=>exact absurd rfl h0
  | cons c r =>
    rw [shRows];cases hq : shRow (c :: r) with
    | none=>rfl
    | some q =>
      simp only;rw [dif_pos (shrow_len _ (row:=q.1) (more:=q.2) (Nat.le_refl _) hq)]
end Q
end Ab
end Go.Proofs.YtehmiepjeffloaaGreatDoor
namespace Go.Proofs.YtehmiepjeffloaaGreatDoor
open Go.RowKit
namespace Ab
set_option maxRecDepth 100000
namespace Q
def yM (f : Fld) : Int:=if keyOk f.1.data.toList = true then (if 1000 < f.2.size then 6 else 0) else 5
def errN (n : Int) : C:=.lit (.iface 41 (.int .i64 n))
def errA (n : Int) : C:=if n = 0 then .lit .nilIface else errN n
theorem errA_eq {n m : Int} (h : n = m) : A.one (errA n) = A.one (errA m):=by rw [h]
theorem check_c (f : Fld) (hk : f.1.size ≤ 1000000000) : qR Tryz.prog 109 [.agg (toL rFld f)] (.one (errA (yM f))):=by
  refine qP (rs:=[2]) Tryz.func109 rfl rfl rfl teOk rfl ?_;refine qC ?_;refine qB ?_;refine qC ?_;refine qN ?_;refine qC ?_;refine qB ?_;refine Or.inl ?_;refine zai (rfl) ?_;refine zei _ (zai (key_c _ hk) ?_);refine qK rfl (fun h3=>?_) (fun h3=>?_)
  ·try simp only [Bool.not_eq_true'] at h3
   try simp only [zds] at h3
   refine qC ?_;refine qB ?_;refine qL ?_;exact errA_eq (n:=5) (by unfold yM;rw [if_neg (by rw [h3];decide)])
  ·try simp only [Bool.not_eq_false'] at h3
   try simp only [zds] at h3
   refine qC ?_;refine qB ?_;refine qK rfl (fun h9=>?_) (fun h9=>?_)
   ·try simp only [decide_eq_true_eq] at h9
    try simp only [zds] at h9
    refine qC ?_;refine qB ?_;refine qL ?_;exact errA_eq (n:=6) (by unfold yM;rw [if_pos h3,if_pos (by omega)])
   ·try simp only [decide_eq_false_iff_not,Int.not_lt] at h9
    try simp only [zds] at h9
    refine qM ?_;refine qC ?_;refine qB ?_;refine qL ?_;exact errA_eq (n:=0) (by unfold yM;rw [if_pos h3,if_neg (by omega)])
theorem check_cases (f : Fld) : yM f = 5 ∨ yM f = 6 ∨ yM f = 0:=by
  unfold yM;split <;> (try split) <;> simp
theorem check_v (f : Fld) (n : Int) (hk : f.1.size ≤ 1000000000) (h : yM f = n) : qR Tryz.prog 109 [.agg (toL rFld f)] (.one (errA n)):=by
  subst h;exact check_c f hk
theorem stuffed_c (s : ByteArray) (hs : s.size ≤ 1000000) : qR Tryz.prog 128 [is s] (is (bytes (stuffL s.data.toList))):=by
  have hz:=qV s;have he : (⟨(Lib.trimS s.data.toList [32,9]).toArray⟩ : ByteArray) = ⟨#[]⟩ ↔ s.data.toList.all blankC = true:=by
    rw [emp,← trim_nil];show (bytes (Lib.trimS s.data.toList [32,9])).data.toList.length = 0 ↔ _;rw [qT];exact ⟨List.eq_nil_of_length_eq_zero,fun h=>by rw [h];rfl⟩
  refine qP (rs:=[2]) Tryz.func128 rfl rfl rfl teOk rfl ?_;refine qC ?_;refine qB ?_;refine qC ?_;refine qC ?_;refine qB ?_;refine Or.inl ?_;refine zai (rfl) ?_;refine zei _ (zai (trimS_c _ _ (by decide) (by decide) (by omega)) ?_);refine zai (fun h=>trivial) ?_;refine Or.inl ?_;refine zai (rfl) ?_;refine zei _ (zai (fun h=>⟨⟨⟨h,trivial⟩,trivial⟩,hasPrefix_c _ _⟩) ?_);refine zai (by first|(intro h;rw [h];rfl)|(intro h;cases h)) ?_;refine qK rfl (fun h9=>?_) (fun h9=>?_)
  ·try simp only [decide_eq_true_eq,Bool.or_eq_true] at h9
   try simp only [zds] at h9
   have hq : (s.data.toList.all blankC || Lib.hasPrefix s.data.toList [46]) = true:=by rw [Bool.or_eq_true];exact h9.imp he.1 id
   refine qC ?_;refine qB ?_;refine zai (by (have hk0 : ByteArray.size { data:=#[46] } = 1:=rfl;first|(unfold maxLen;omega)|(simp only [ByteArray.size_append];omega)|(unfold maxLen;(try simp only [ByteArray.size_append]);omega))) ?_;refine qL ?_;refine is_eq ?_;unfold stuffL;rw [if_pos hq,show (46 :: s.data.toList) = [46] ++ s.data.toList from rfl,bytes_app,show bytes s.data.toList = s from xK s];rfl
  ·try simp only [decide_eq_false_iff_not,Bool.or_eq_false_iff] at h9
   try simp only [zds] at h9
   have hq : ¬ (s.data.toList.all blankC || Lib.hasPrefix s.data.toList [46]) = true:=by rw [Bool.or_eq_true];exact fun e=>e.elim (fun e=>h9.1 (he.2 e)) (fun e=>by rw [h9.2] at e;cases e)
   refine qM ?_;refine qC ?_;refine qB ?_;refine qL ?_;refine is_eq ?_;unfold stuffL;rw [if_neg hq];exact (xK s).symm
theorem cut_v (s p : ByteArray) (l : List UInt8) (c : List UInt8 × List UInt8 × Bool) (hl : p.data.toList = l) (hc : Lib.cut s.data.toList l = c) (hs : s.size < 4294967281) : qR Tryz.prog 81 [is s,is p] (.tup [(false,[.lit (.string (bytes c.1))]),(false,[.lit (.string (bytes c.2.1))]),(false,[.lit (.bool c.2.2)])]):=by
  subst hl hc;exact cut_c s p hs
theorem cut_len (l sep : List UInt8) : (Lib.cut l sep).1.length ≤ l.length ∧ (Lib.cut l sep).2.1.length ≤ l.length:=by
  unfold Lib.cut;split
  · simp only [List.length_take,List.length_drop];omega
  · exact ⟨Nat.le_refl _,Nat.zero_le _⟩
theorem kind_c (s : ByteArray) (hs : s.size ≤ 1000000000) : qR Tryz.prog 82 [is s] (ii .i64 (yN s.data.toList)):=by
  have hz:=qV s;obtain ⟨c,hc⟩ : ∃ c,Lib.cut s.data.toList [58] = c:=⟨_,rfl⟩;have hcl : (bytes c.1).size ≤ 1000000000:=by rw [yA,← hc];have:=(cut_len s.data.toList [58]).1;omega
  have he : (⟨(Lib.trimS s.data.toList [32,9]).toArray⟩ : ByteArray) = ⟨#[]⟩ ↔ s.data.toList.all blankC = true:=by
    rw [emp,← trim_nil];show (bytes (Lib.trimS s.data.toList [32,9])).data.toList.length = 0 ↔ _;rw [qT];exact ⟨List.eq_nil_of_length_eq_zero,fun h=>by rw [h];rfl⟩
  have hcon : Lib.contains s.data.toList [10] = decide (10 ∈ s.data.toList):=contains_one _ _;refine qP (rs:=[2]) Tryz.func82 rfl rfl rfl teOk rfl ?_;refine qC ?_;refine qB ?_;refine qC ?_;refine qN ?_;refine qC ?_;refine qB ?_;refine Or.inl ?_;refine zai (rfl) ?_;refine zei _ (zai (contains_c _ _ (by omega)) ?_);refine qK rfl (fun h6=>?_) (fun h6=>?_)
  ·skip
   have hm : 10 ∈ s.data.toList:=of_decide_eq_true (hcon ▸ h6);refine qC ?_;refine qB ?_;refine qL ?_;refine yP ?_;unfold yN;rw [if_pos hm]
  ·skip
   have hm : 10 ∉ s.data.toList:=of_decide_eq_false (hcon ▸ h6);refine qC ?_;refine qB ?_;refine Or.inl ?_;refine zai (rfl) ?_;refine zei _ (zai (trimS_c _ _ (by decide) (by decide) (by omega)) ?_);refine qK rfl (fun h9=>?_) (fun h9=>?_)
   ·try simp only [decide_eq_true_eq] at h9
    try simp only [zds] at h9
    rw [he] at h9;refine qC ?_;refine qB ?_;refine qL ?_;refine yP ?_;unfold yN;rw [if_neg hm,if_pos h9]
   ·try simp only [decide_eq_false_iff_not] at h9
    try simp only [zds] at h9
    rw [he] at h9;refine qC ?_;refine qB ?_;refine Or.inl ?_;refine zai (rfl) ?_;refine zei _ (zai (hasPrefix_c _ _) ?_);refine qK rfl (fun h13=>?_) (fun h13=>?_)
    ·skip
     refine qC ?_;refine qB ?_;refine qL ?_;refine yP ?_;unfold yN;rw [if_neg hm,if_neg h9,if_pos h13]
    ·skip
     refine qC ?_;refine qB ?_;refine Or.inl ?_;refine zai (rfl) ?_;refine zei _ (zai (blank_c _ hs) ?_);refine qK rfl (fun h16=>?_) (fun h16=>?_)
     ·try simp only [zbq] at h16
      try simp only [zds] at h16
      refine qC ?_;refine qB ?_;refine qL ?_;refine yP ?_;unfold yN;rw [if_neg hm,if_neg h9,if_neg (by rw [Bool.not_eq_true];exact h13),if_pos h16]
     ·try simp only [zbq] at h16
      try simp only [zds] at h16
      refine qM ?_;refine qC ?_;refine qC ?_;refine qB ?_;refine Or.inl ?_;refine zai (rfl) ?_;refine zei _ (zai (cut_v _ _ [58] c rfl hc (by omega)) ?_);refine qC ?_;refine qB ?_;refine zai (fun h=>trivial) ?_;refine Or.inl ?_;refine zai (rfl) ?_;refine zei _ (zai (fun h=>⟨⟨⟨h,trivial⟩,trivial⟩,key_c _ hcl⟩) ?_);refine zai (by exact fun h=>h) ?_;refine qK rfl (fun h29=>?_) (fun h29=>?_)
      ·try simp only [Bool.and_eq_true] at h29
       try simp only [zds] at h29
       refine qC ?_;refine qB ?_;refine qL ?_;refine yP ?_;unfold yN;rw [if_neg hm,if_neg h9,if_neg (by rw [Bool.not_eq_true];exact h13),if_neg (by rw [Bool.not_eq_true];exact h16),hc,if_pos (by rw [Bool.and_eq_true];rw [qT] at h29;exact h29)]
      ·try simp only [Bool.and_eq_false_iff] at h29
       try simp only [zds] at h29
       refine qM ?_;refine qC ?_;refine qB ?_;refine qL ?_;refine yP ?_;unfold yN;rw [if_neg hm,if_neg h9,if_neg (by rw [Bool.not_eq_true];exact h13),if_neg (by rw [Bool.not_eq_true];exact h16),hc,if_neg (by rw [Bool.not_eq_true,Bool.and_eq_false_iff];rw [qT] at h29;exact h29)]
def cutL (l : List UInt8) : List UInt8 × List UInt8 × Bool:=if yN l = 4 then Lib.cut l [58] else ([],[],false)
def cutA (c : List UInt8 × List UInt8 × Bool) : A:=.tup [(false,[.lit (.string (bytes c.1))]),(false,[.lit (.string (bytes c.2.1))]),(false,[.lit (.bool c.2.2)])]
theorem cutA_eq {c c' : List UInt8 × List UInt8 × Bool} (h : c = c') : cutA c = cutA c':=by rw [h]
theorem lcut_c (s : ByteArray) (hs : s.size ≤ 1000000000) : qR Tryz.prog 125 [is s] (cutA (cutL s.data.toList)):=by
  refine qP (rs:=[2,3,4]) Tryz.func125 rfl rfl rfl teOk rfl ?_;refine qC ?_;refine qB ?_;refine qC ?_;refine qC ?_;refine qB ?_;refine Or.inl ?_;refine zai (rfl) ?_;refine zei _ (zai (kind_c s hs) ?_);refine qK rfl (fun h7=>?_) (fun h7=>?_)
  ·try simp only [decide_eq_false_iff_not,Bool.not_eq_true'] at h7
   try simp only [zds] at h7
   refine qC ?_;refine qB ?_;refine qL ?_;exact cutA_eq (c:=([],[],false)) (by unfold cutL;rw [if_neg h7])
  ·try simp only [decide_eq_true_eq,Bool.not_eq_false'] at h7
   try simp only [zds] at h7
   refine qM ?_;refine qC ?_;refine qB ?_;refine Or.inl ?_;refine zai (rfl) ?_;refine zei _ (zai (cut_v _ _ [58] _ rfl rfl (by omega)) ?_);refine qL ?_;exact cutA_eq (c:=Lib.cut s.data.toList [58]) (by unfold cutL;rw [if_pos h7])
end Q
end Ab
end Go.Proofs.YtehmiepjeffloaaGreatDoor
namespace Go.Proofs.YtehmiepjeffloaaGreatDoor
open Go.RowKit
namespace Ab
set_option maxRecDepth 100000
namespace Q
theorem replaceQ_c (s : ByteArray) (hs : s.size ≤ 1000000000) : qR Tryz.prog 112 [is s,is ⟨#[34]⟩,is ⟨#[34,34]⟩] (is (bytes (dblL (ls s)))):=by
  refine ⟨⟨_,Tryz.func112,rfl,rfl⟩,fun ok w vs hg hvs=>?_⟩;obtain ⟨v,t,rfl,hv,v2,t2,rfl,hv2,v3,t3,rfl,hv3,ht⟩:=hvs;rw [show t3 = [] from ht,show v = .string s from hv,show v2 = .string ⟨#[34]⟩ from hv2,show v3 = .string ⟨#[34,34]⟩ from hv3];obtain ⟨_,_,m,hm⟩:=hg;have hc:=Lib.countB_le ⟨#[34]⟩ (by decide) _ s (Nat.le_refl _);refine (Tryz.strings_ReplaceAll s ⟨#[34]⟩ ⟨#[34,34]⟩ m w (by omega) hm (by decide) (by
    have : Lib.countB s ⟨#[34]⟩ * ByteArray.size ⟨#[34,34]⟩ ≤ 1000000001 * 2:=Nat.mul_le_mul (by omega) (by decide);omega)).mono ?_
  rintro e w' ⟨rfl,hb⟩
  refine ⟨_,rfl,hb,?_⟩;show Value.string _ = Value.string _;rw [show (Lib.replaceAll s.data.toList (ByteArray.mk #[34]).data.toList (ByteArray.mk #[34,34]).data.toList) = dblL (ls s) from rep_dbl _];rfl
theorem conAny_c (s : ByteArray) (hs : s.size ≤ 1000000000) : qR Tryz.prog 99 [is s,is ⟨#[44,34,10,13]⟩] (ib ((ls s).any oddC)) :=
  acall2 ⟨_,Tryz.func99,rfl,rfl⟩ (fun _ _=>rfl) fun w _=>(conAny Tryz.lays150 (by kernel_rfl) s ⟨#[44,34,10,13]⟩ w (by omega) (by decide) (by decide) (fun j b h=>by
    have:=List.mem_of_getElem? h;simp at this;rcases this with rfl|rfl|rfl|rfl <;> decide)).mono fun _ _ h=>⟨by rw [h.1,show Lib.containsAny s.data.toList (ByteArray.mk #[44,34,10,13]).data.toList = (ls s).any oddC from any_odd _],h.2⟩
theorem idxAny_c (s : ByteArray) (hs : s.size ≤ 1000000000) : qR Tryz.prog 103 [is s,is ⟨#[44,10]⟩] (ii .i64 (Lib.indexAny (ls s) [44,10])) :=
  acall2 ⟨_,Tryz.func103,rfl,rfl⟩ (fun _ _=>rfl) fun w _=>(idxAny Tryz.lays153 (by kernel_rfl) s ⟨#[44,10]⟩ w (by omega) (by decide) (by decide) (fun j b h=>by
    have:=List.mem_of_getElem? h;simp at this;rcases this with rfl|rfl <;> decide)).mono fun _ _ h=>h
theorem quo_b (l : List UInt8) : (⟨#[34]⟩ : ByteArray) ++ bytes (dblL l) ++ ⟨#[34]⟩ = bytes (quoL l):=by
  rw [show quoL l = [34] ++ dblL l ++ [34] by simp [quoL],bytes_app,bytes_app];rfl
theorem quoted_c (s : ByteArray) (hs : s.size ≤ 1000000000) : qR Tryz.prog 100 [is s] (is (bytes (quoL (ls s)))):=by
  have hz : s.size = (ls s).length:=qV s;have hd:=dbl_len (ls s);refine qP (rs:=[2]) Tryz.func100 rfl rfl rfl teOk rfl ?_;refine qC ?_;refine qB ?_;refine qC ?_;refine qB ?_;refine Or.inl ?_;refine zai (rfl) ?_;refine zei _ (zai (replaceQ_c s hs) ?_);refine zai (by unfold maxLen;have h1 : ByteArray.size ⟨#[34]⟩ = 1:=rfl;rw [yA];omega) ?_;refine zai (by unfold maxLen;have h1 : ByteArray.size ⟨#[34]⟩ = 1:=rfl;rw [ByteArray.size_append,yA];omega) ?_;refine qL ?_;exact is_eq (quo_b _)
theorem cell_yes {s : ByteArray} {al : Bool} (h : s = { data:=#[] } ∧ al = true ∨ (ls s).any oddC = true) : (((ls s).isEmpty && al) || (ls s).any oddC) = true:=by
  rcases h with ⟨h,h'⟩|h
  · subst h;subst h';rfl
  · rw [h,Bool.or_true]
theorem cell_not {s : ByteArray} {al : Bool} (h : (¬s = { data:=#[] } ∨ al = false) ∧ (ls s).any oddC = false) : ¬ (((ls s).isEmpty && al) || (ls s).any oddC) = true:=by
  rw [h.2,Bool.or_false];intro hc;simp only [Bool.and_eq_true,List.isEmpty_iff] at hc;rcases h.1 with h|h
  · exact h (ls_inj hc.1)
  · rw [h] at hc;exact absurd hc.2 (by decide)
theorem cell_c (s : ByteArray) (al : Bool) (hs : s.size ≤ 1000000000) : qR Tryz.prog 77 [is s,ib al] (is (bytes (xG (ls s) al))):=by
  refine qP (rs:=[4]) Tryz.func77 rfl rfl rfl teOk rfl ?_;refine qC ?_;refine qB ?_;refine qC ?_;refine qC ?_;refine qB ?_;refine zai (fun h=>trivial) ?_;refine zai (by exact fun h=>h) ?_;refine zai (fun h=>trivial) ?_;refine Or.inl ?_;refine zai (rfl) ?_;refine zei _ (zai (fun h=>⟨⟨⟨h,trivial⟩,trivial⟩,conAny_c s hs⟩) ?_);refine zai (by first|(intro h;rw [h];rfl)|(intro h;cases h)) ?_;refine qK rfl (fun h13=>?_) (fun h13=>?_)
  ·try simp only [decide_eq_true_eq,Bool.and_eq_true,Bool.or_eq_true] at h13
   try simp only [zds] at h13
   refine qC ?_;refine qB ?_;refine Or.inl ?_;refine zai (rfl) ?_;refine zei _ (zai (quoted_c s hs) ?_);refine qL ?_;exact is_eq (by rw [xG,if_pos (cell_yes h13)])
  ·try simp only [decide_eq_false_iff_not,Bool.or_eq_false_iff,Bool.and_eq_false_iff] at h13
   try simp only [zds] at h13
   refine qM ?_;refine qC ?_;refine qB ?_;refine qL ?_;exact is_eq (by rw [xG,if_neg (cell_not h13),xK])
theorem each_c {κ : Nat} (f : FuncId) {β : Type} (S : Rd β) (y : β) (l : List ByteArray) (hl : l.length ≤ 1000000000) (p : ByteArray → ByteArray) (hp : ∀ x ∈ l,qR Tryz.prog f [is x,.one (.adk κ S y)] (is (p x))) : qR Tryz.prog 31 [.one (.sl .str l),.one (.clo f (.adk κ S y))] (.one (.sl .str (l.map p))):=by
  refine qP (rs:=[4]) Tryz.func31 rfl rfl rfl teOk rfl ?_;refine qC ?_;refine qB ?_;refine qC ?_;refine qB ?_;refine qC ?_;refine qC ?_;refine yL 5 9 .str rfl ?_;refine qB ?_;intro l2_1
  try simp only [zds] at l2_1
  refine qN ?_;refine qU (fun (i : Nat)=>i ≤ l.length) (fun (i : Nat)=>[(1,.one (.clo f (.adk κ S y))),(5,.one (.vec 0)),(8,.one (.sl .str l)),(9,ii .i64 l.length),(10,ii .i64 i)]) (fun (i : Nat)=>[(0,.vec 9 .str ((l.take i).map p))]) 1 (fun (i : Nat)=>l.length - i) 0 (Nat.zero_le _) (qQ ⟨rfl,rfl,rfl,rfl,rfl⟩ rfl rfl) ?_;intro i hI0;refine qC ?_;refine qB ?_;refine qC ?_;refine qK rfl (fun h11=>?_) (fun h11=>?_)
  ·try simp only [decide_eq_true_eq] at h11
   try simp only [zds] at h11
   refine qM ?_;refine qC ?_;refine qN ?_;refine qC ?_;refine qB ?_;refine zai (by first|omega|assumption|decide|(simp only [zds];omega)|(simp <;> omega)) ?_;refine qB ?_;refine Or.inl ?_;refine zai (rfl) ?_;refine zei _ (zai (hp _ (yW (show i < l.length by omega) _)) ?_);refine zai (by show (_ + 1) * 16 ≤ 140737488355328;rw [List.length_map,List.length_take];omega) ?_;refine qB ?_;refine zai (by first|omega|assumption|decide|(simp only [zds];omega)|(simp <;> omega)) ?_;exact ⟨i + 1,by omega,by first|omega|(simp <;> omega),qQ ⟨rfl,rfl,rfl,rfl,(yP (by omega))⟩ (yF (map_take_succ p l _ i (by omega)).symm) rfl⟩
  ·try simp only [decide_eq_false_iff_not,Int.not_lt] at h11
   try simp only [zds] at h11
   refine qY ?_;refine qC ?_;refine qB ?_;refine qL ?_;refine sl_eq ?_;rw [List.take_of_length_le (by omega)]
def mR (r : List ByteArray) : Nat:=(r.map fun s=>s.size + 1).sum
def mT (t : List (List ByteArray)) : Nat:=(t.map mR).sum
abbrev lss (r : List ByteArray) : List (List UInt8):=r.map ls
abbrev lst (t : List (List ByteArray)) : List (List (List UInt8)):=t.map lss
theorem mR_mem {r : List ByteArray} {s : ByteArray} (h : s ∈ r) : s.size + 1 ≤ mR r:=by
  obtain ⟨a,b,rfl⟩:=List.append_of_mem h;simp [mR];omega
theorem mR_len : ∀ r : List ByteArray,r.length ≤ mR r
  | []=>Nat.le_refl _
  | s :: r=>by have:=mR_len r;simp [mR] at this ⊢;omega
theorem mT_mem {t : List (List ByteArray)} {r : List ByteArray} (h : r ∈ t) : mR r ≤ mT t:=by
  obtain ⟨a,b,rfl⟩:=List.append_of_mem h;simp [mT];omega
theorem cell_len (s : List UInt8) (al : Bool) : (xG s al).length ≤ 2 * s.length + 2:=by
  have:=dbl_len s;unfold xG;split
  · simp [quoL];omega
  · omega
theorem joinC_len (al : Bool) : ∀ r : List ByteArray,(Lib.join (r.map fun s=>xG (ls s) al) [44]).length ≤ 3 * mR r
  | []=>by simp [Lib.join,List.intercalate]
  | [s]=>by
    have:=cell_len (ls s) al;have hz : s.size = (ls s).length:=qV s;simp [Lib.join,List.intercalate,mR] at this ⊢;omega
  | s :: t :: l=>by
    have:=cell_len (ls s) al;have hz : s.size = (ls s).length:=qV s;have ih:=joinC_len al (t :: l);have e : mR (s :: t :: l) = s.size + 1 + mR (t :: l):=by simp [mR]
    simp only [List.map_cons] at ih ⊢;rw [join_cons2,e];simp only [List.length_append,List.length_cons];omega
theorem shLine_len (r : List ByteArray) : (shLine (lss r)).length ≤ 3 * mR r + 1:=by
  have:=joinC_len (decide (r.length = 1)) r;unfold shLine;rw [List.map_map,List.length_append,List.length_map];exact Nat.add_le_add_right this 1
theorem line1_c {κ : Nat} (row : List ByteArray) (s : ByteArray) (hs : s.size ≤ 1000000000) : qR Tryz.prog 76 [is s,.one (.adk κ (.sl .str) row)] (is (bytes (xG (ls s) (decide (row.length = 1))))):=by
  refine qP (rs:=[3]) Tryz.func76 rfl rfl rfl teOk rfl ?_;refine qC ?_;refine qB ?_;refine qC ?_;refine qB ?_;intro l1_2
  try simp only [zds] at l1_2
  refine Or.inl ?_;refine zai (rfl) ?_;refine zei _ (zai (cell_c s _ hs) ?_);refine qL ?_;exact is_eq (by rw [show decide ((row.length : Int) = 1) = decide (row.length = 1) from decide_eq_decide.2 (by omega)])
theorem lineJ (row : List ByteArray) (al : Bool) : Lib.join ((row.map fun s=>bytes (xG (ls s) al)).map (·.data.toList)) ((⟨#[44]⟩ : ByteArray).data.toList) = Lib.join (row.map fun s=>xG (ls s) al) [44]:=by
  rw [List.map_map];show Lib.join (row.map fun s=>(bytes (xG (ls s) al)).data.toList) [44] = _;simp only [qT]
theorem line_c (row : List ByteArray) (hr : mR row ≤ 100000000) : qR Tryz.prog 48 [.one (.sl .str row)] (is (bytes (shLine (lss row)))):=by
  have hl:=mR_len row;have hj:=joinC_len (decide (row.length = 1)) row;refine qP (rs:=[2]) Tryz.func48 rfl rfl rfl teOk rfl ?_;refine qC ?_;refine qB ?_;refine qC ?_;refine qB ?_;refine Or.inl ?_;refine zai (rfl) ?_;refine zei _ (zai (each_c 76 (.sl .str) row row (by omega) (fun s=>bytes (xG (ls s) (decide (row.length = 1)))) (fun x hx=>line1_c row x (by have:=mR_mem hx;omega))) ?_);refine qC ?_;refine qB ?_;refine Or.inl ?_;refine zai (rfl) ?_;refine zei _ (zai (join_c _ _ (by rw [List.length_map];omega) (by have:=lineJ row (decide (row.length = 1));exact Nat.le_trans (Nat.le_of_eq (congrArg List.length this)) (by omega))) ?_);refine zai (by unfold maxLen;rw [show ∀ l : List UInt8,ByteArray.size ⟨l.toArray⟩ = l.length from yA];have h1 : ByteArray.size ⟨#[10]⟩ = 1:=rfl;have:=congrArg List.length (lineJ row (decide (row.length = 1)));omega) ?_;refine qL ?_;refine is_eq ?_;have:=lineJ row (decide (row.length = 1));rw [show shLine (lss row) = Lib.join (row.map fun s=>xG (ls s) (decide (row.length = 1))) [44] ++ [10] by (unfold shLine;rw [List.map_map,List.length_map];rfl),bytes_app,← this];rfl
theorem index_CR (f : FuncId) (l : List (List ByteArray)) (p : List ByteArray → Bool) (hp : ∀ x ∈ l,qR Tryz.prog f [.one (.sl .str x)] (ib (p x))) : qR Tryz.prog 97 [.one (.sl (.sl .str) l),.one (.lit (.func (.func f) #[] #[]))] (ii .i64 (ixOf p l)):=by
  refine qP (rs:=[4]) Tryz.func97 rfl rfl rfl teOk rfl ?_;refine qC ?_;refine qB ?_;refine qC ?_;refine qC ?_;refine qB ?_;intro l1_1
  try simp only [zds] at l1_1
  refine qN ?_;refine qU (fun (i : Nat)=>i ≤ l.length ∧ (l.take i).any p = false) (fun (i : Nat)=>[(0,.one (.sl (.sl .str) l)),(1,.one (.lit (.func (.func f) #[] #[]))),(7,ii .i64 l.length),(8,ii .i64 i)]) (fun (i : Nat)=>[]) 0 (fun (i : Nat)=>l.length - i) 0 (⟨Nat.zero_le _,rfl⟩) (qQ ⟨rfl,rfl,rfl,rfl⟩ trivial rfl) ?_;intro i hI0;obtain ⟨hi,hn⟩:=hI0;refine qC ?_;refine qB ?_;refine qC ?_;refine qK rfl (fun h9=>?_) (fun h9=>?_)
  ·try simp only [decide_eq_true_eq] at h9
   try simp only [zds] at h9
   refine qM ?_;refine qC ?_;refine qN ?_;refine qC ?_;refine qB ?_;refine qC ?_;refine qB ?_;refine zai (by first|omega|assumption|decide|(simp only [zds];omega)|(simp <;> omega)) ?_;refine Or.inl ?_;refine zai (rfl) ?_;refine zei _ (zai (hp _ (yW (show i < l.length by omega) _)) ?_);refine qK rfl (fun h16=>?_) (fun h16=>?_)
   ·try simp only [zbq] at h16
    try simp only [Int.toNat_natCast,qG] at h16
    refine qC ?_;refine qB ?_;refine qL ?_;exact yP (ixOf_at (Rd.sl .str).dflt (by omega) hn h16).symm
   ·try simp only [zbq] at h16
    try simp only [Int.toNat_natCast,qG] at h16
    refine qM ?_;refine qB ?_;refine zai (by first|omega|assumption|decide|(simp only [zds];omega)|(simp <;> omega)) ?_;exact ⟨i + 1,⟨by omega,by rw [take_any l p (Rd.sl .str).dflt i (by omega),hn];exact h16⟩,by first|omega|(simp <;> omega),qQ ⟨rfl,rfl,rfl,rfl⟩ trivial rfl⟩
  ·try simp only [decide_eq_false_iff_not,Int.not_lt] at h9
   try simp only [zds] at h9
   refine qY ?_;refine qC ?_;refine qB ?_;refine qL ?_;have e : i = l.length:=by omega
   subst e;rw [List.take_length] at hn;exact yP (ixOf_none hn).symm
theorem contains_CR (f : FuncId) (l : List (List ByteArray)) (p : List ByteArray → Bool) (hp : ∀ x ∈ l,qR Tryz.prog f [.one (.sl .str x)] (ib (p x))) : qR Tryz.prog 73 [.one (.sl (.sl .str) l),.one (.lit (.func (.func f) #[] #[]))] (ib (l.any p)):=by
  refine qP (rs:=[4]) Tryz.func73 rfl rfl rfl teOk rfl ?_;refine qC ?_;refine qB ?_;refine qC ?_;refine qB ?_;refine Or.inl ?_;refine zai (rfl) ?_;refine zei _ (zai (index_CR f l p hp) ?_);refine qL ?_;exact ib_eq (ixOf_ge p l)
theorem emp_dec {α : Type} (r : List α) : decide ((r.length : Int) = 0) = r.isEmpty:=by
  cases r with
  | nil=>rfl
  | cons a l=>simp;omega
theorem good1_c (r : List ByteArray) : qR Tryz.prog 74 [.one (.sl .str r)] (ib r.isEmpty):=by
  refine qP (rs:=[2]) Tryz.func74 rfl rfl rfl teOk rfl ?_;refine qC ?_;refine qB ?_;refine qC ?_;refine qB ?_;intro l1_1
  try simp only [zds] at l1_1
  refine qL ?_;exact ib_eq (emp_dec r)
theorem good_any (rows : List (List ByteArray)) : (!rows.any fun r=>r.isEmpty) = xB rows:=by
  unfold xB;rw [List.all_eq_not_any_not];simp
theorem Good_c (rows : List (List ByteArray)) : qR Tryz.prog 46 [.one (.sl (.sl .str) rows)] (ib (xB rows)):=by
  refine qP (rs:=[2]) Tryz.func46 rfl rfl rfl teOk rfl ?_;refine qC ?_;refine qB ?_;refine qC ?_;refine qB ?_;refine Or.inl ?_;refine zai (rfl) ?_;refine zei _ (zai (contains_CR _ _ (fun r=>r.isEmpty) (fun x _=>good1_c x)) ?_);refine qL ?_;exact ib_eq (good_any rows)
theorem shWrite_len : ∀ rows : List (List ByteArray),(yK (lst rows)).length ≤ 3 * mT rows + rows.length
  | []=>by simp [yK]
  | r :: rows=>by
    have ih:=shWrite_len rows;have hl:=shLine_len r;have e : yK (lst (r :: rows)) = shLine (lss r) ++ yK (lst rows):=rfl;have e2 : mT (r :: rows) = mR r + mT rows:=by simp [mT]
    rw [e,e2,List.length_append,List.length_cons];omega
theorem mT_take (rows : List (List ByteArray)) (i : Nat) : mT (rows.take i) ≤ mT rows:=by
  conv=>rhs;rw [← List.take_append_drop i rows]
  unfold mT;rw [List.map_append,List.sum_append];omega
theorem shWrite_snoc (rows : List (List ByteArray)) {i : Nat} (h : i < rows.length) : yK (lst (rows.take (i + 1))) = yK (lst (rows.take i)) ++ shLine (lss (rows.getD i [])):=by
  rw [← yQ [] h];simp [yK,lst]
def shWrA (rows : List (List ByteArray)) : A:=if xB rows = true then .tup [(false,[.lit (.string (bytes (yK (lst rows))))]),(false,[.lit .nilIface])] else .tup [(false,[.lit (.string ⟨#[]⟩)]),(false,[errN 2])]
theorem Write_c (rows : List (List ByteArray)) (hm : mT rows ≤ 100000000) (hl : rows.length ≤ 100000000) : qR Tryz.prog 26 [.one (.sl (.sl .str) rows)] (shWrA rows):=by
  refine qP (rs:=[2,3]) Tryz.func26 rfl rfl rfl teOk rfl ?_;refine qC ?_;refine qB ?_;refine qC ?_;refine qC ?_;refine qB ?_;refine Or.inl ?_;refine zai (rfl) ?_;refine zei _ (zai (Good_c rows) ?_);refine qK rfl (fun h9=>?_) (fun h9=>?_)
  ·try simp only [Bool.not_eq_true'] at h9
   try simp only [zds] at h9
   refine qC ?_;refine qB ?_;refine qL ?_;unfold shWrA;rw [if_neg (by rw [h9];decide)];rfl
  ·try simp only [Bool.not_eq_false'] at h9
   try simp only [zds] at h9
   refine qM ?_;refine qC ?_;refine qB ?_;refine qC ?_;refine qC ?_;refine acode_bld 0 5 (.int .u8) rfl ?_;refine qB ?_;intro l4_1
   try simp only [zds] at l4_1
   refine qN ?_;refine qU (fun (x : Nat × Bool)=>x.1 ≤ rows.length) (fun (x : Nat × Bool)=>[(4,.one (.own 0 0)),(11,.one (.sl (.sl .str) rows)),(12,ii .i64 rows.length),(13,ii .i64 x.1)]) (fun (x : Nat × Bool)=>[(0,.box 119 [.nself x.2 0,.vec 1]),(1,.vec 5 (.int .u8) (yX (bytes (yK (lst (rows.take x.1))))))]) 2 (fun (x : Nat × Bool)=>rows.length - x.1) (0,false) (Nat.zero_le _) (qQ ⟨rfl,rfl,rfl,rfl⟩ ⟨rfl,rfl⟩ rfl) ?_;intro ⟨i,u⟩ hI0;simp only at hI0 ⊢;have hi:=hI0;refine qC ?_;refine qB ?_;refine qC ?_;refine qK rfl (fun h14=>?_) (fun h14=>?_)
   ·try simp only [decide_eq_true_eq] at h14
    try simp only [zds] at h14
    have hil : i < rows.length:=by omega
    have hmr : mR (rows.getD i []) ≤ mT rows:=mT_mem (yW hil []);have hwl:=shWrite_len (rows.take i);have hmt:=mT_take rows i;have hll:=shLine_len (rows.getD i []);rw [List.length_take] at hwl;refine qM ?_;refine qC ?_;refine qN ?_;refine qC ?_;refine qB ?_;refine zai (by first|omega|assumption|decide|(simp only [zds];omega)|(simp <;> omega)) ?_;refine qB ?_;refine Or.inl ?_;refine zai (rfl) ?_;refine zei _ (zai (line_c _ (Nat.le_trans hmr hm)) ?_);refine Or.inr (Or.inl (zei [] (zei [0,1] (zei _ (zei _ (zei _ (zei _ (zei _ (zai (writeString_o _ _ _ (by rw [ints_len,yA];show _ + (shLine (lss (rows.getD i []))).length ≤ _;omega)) (zai rfl (zai (zai (zai rfl rfl) (zai (zai rfl rfl) True.intro)) (zai rfl ?_))))))))))));refine qB ?_;refine zai (by first|omega|assumption|decide|(simp only [zds];omega)|(simp <;> omega)) ?_;exact ⟨(i + 1,true),(by simp only;omega),by first|omega|(simp <;> omega),qQ ⟨rfl,rfl,rfl,(yP (by simp only;omega))⟩ ⟨rfl,(yF (by simp only;rw [shWrite_snoc rows hil];exact ints_add _ _ _ rfl))⟩ rfl⟩
   ·try simp only [decide_eq_false_iff_not,Int.not_lt] at h14
    try simp only [zds] at h14
    refine qY ?_;refine qC ?_;refine qB ?_;refine Or.inr (Or.inl (zei [] (zei [0,1] (zei _ (zei _ (zei _ (zei _ (zei _ (zai (string_o _ _) (zai rfl (zai (zai (zai rfl rfl) (zai (zai rfl rfl) True.intro)) (zai rfl ?_))))))))))));refine qL ?_;unfold shWrA;rw [if_pos (by simpa using h9),List.take_of_length_le (by omega)];rfl
end Q
end Ab
end Go.Proofs.YtehmiepjeffloaaGreatDoor
namespace Go.Proofs.YtehmiepjeffloaaGreatDoor
open Go.RowKit
namespace Ab
set_option maxRecDepth 100000
namespace Q
def inQA (l : List UInt8) : List UInt8 × List UInt8 × Bool:=match inQ l with
  | some p=>(p.1,p.2,true)
  | none=>([],[],false)
def nextA (l : List UInt8) : List UInt8 × List UInt8 × Bool:=match shNext l with
  | some p=>(p.1,p.2,true)
  | none=>([],[],false)
theorem cutq_v (s : ByteArray) (c : List UInt8 × List UInt8 × Bool) (hc : Lib.cut (ls s) [34] = c) (hs : s.size ≤ 1000000000) : qR Tryz.prog 81 [is s,is ⟨#[34]⟩] (cutA c):=by
  subst hc;exact cut_c s ⟨#[34]⟩ (by omega)
theorem pre_b (l m : List UInt8) : Lib.hasPrefix (bytes l).data.toList m = Lib.hasPrefix l m:=by rw [qT]
theorem pre_cons {l : List UInt8} (h : Lib.hasPrefix l [34] = true) : ∃ r,l = 34 :: r:=by
  cases l with
  | nil=>simp [Lib.hasPrefix] at h
  | cons c r=>simp [Lib.hasPrefix] at h;exact ⟨r,by rw [h]⟩
theorem ext_dropS (l : List UInt8) (k : Nat) : (bytes l).extract k (bytes l).size = bytes (l.drop k):=by
  apply ByteArray.ext;apply Array.ext';rw [extract_ls,qT,qT,yA,List.take_of_length_le (by rw [List.length_drop];omega)]
theorem ext_s (s : ByteArray) (k : Nat) : s.extract k s.size = bytes ((ls s).drop k):=by
  have:=ext_dropS (ls s) k
  rwa [xK] at this
theorem string_v (u : Bool) (xs : List Int) (s : ByteArray) (h : xs = yX s) : yC Tryz.prog 49 [.one (.own 0 0)] (bldO u xs) 2 (is s) [] 2:=by subst h;exact string_o u s
theorem inQuotes_c (s : ByteArray) (h1 : 1 ≤ s.size) (hs : s.size ≤ 100000000) : qR Tryz.prog 102 [is s] (cutA (inQA ((ls s).drop 1))):=by
  have hz : s.size = (ls s).length:=qV s;refine qP (rs:=[2,3,4]) Tryz.func102 rfl rfl rfl teOk rfl ?_;refine qC ?_;refine qB ?_;refine qC ?_;refine qB ?_;refine qC ?_;refine acode_bld 0 5 (.int .u8) rfl ?_;refine qB ?_;refine zai (by omega) ?_;refine qN ?_;refine qU (fun (x : Bool × List UInt8 × List UInt8)=>x.2.1.length + x.2.2.length ≤ s.size ∧ inQ ((ls s).drop 1) = (inQ x.2.1).map (fun q=>(x.2.2 ++ q.1,q.2))) (fun (x : Bool × List UInt8 × List UInt8)=>[(5,.one (.own 0 0)),(6,is (bytes x.2.1))]) (fun (x : Bool × List UInt8 × List UInt8)=>[(0,.box 119 [.nself x.1 0,.vec 1]),(1,.vec 5 (.int .u8) (yX (bytes x.2.2)))]) 2 (fun (x : Bool × List UInt8 × List UInt8)=>x.2.1.length) (false,(ls s).drop 1,[]) (⟨by simp only [List.length_drop,List.length_nil];omega,by simp only [List.nil_append];cases inQ ((ls s).drop 1) <;> rfl⟩) (qQ ⟨rfl,(is_eq (ext_s s 1))⟩ ⟨rfl,rfl⟩ rfl) ?_;intro ⟨u,rest,acc⟩ hI0;simp only at hI0 ⊢;obtain ⟨hb,hq⟩:=hI0;obtain ⟨c,hc⟩ : ∃ c,Lib.cut rest [34] = c:=⟨_,rfl⟩;have hq2:=inQ_cut rest;rw [hc] at hq2;have hcl:=fun h=>shcut_len (l:=rest) h
  rw [hc] at hcl;refine qN ?_;refine qC ?_;refine qB ?_;refine Or.inl ?_;refine zai (rfl) ?_;refine zei _ (zai (cutq_v _ c (by show Lib.cut (bytes rest).data.toList [34] = c;rw [qT];exact hc) (by rw [yA];omega)) ?_);refine qC ?_;refine qC ?_;refine qB ?_;refine qK rfl (fun h19=>?_) (fun h19=>?_)
  ·try simp only [Bool.not_eq_true'] at h19
   try simp only [zds] at h19
   refine qC ?_;refine qB ?_;refine qL ?_;have e : inQA ((ls s).drop 1) = ([],[],false):=by (unfold inQA;rw [hq,hq2,if_neg (by rw [h19];decide)];rfl)
   rw [e];rfl
  ·try simp only [Bool.not_eq_false'] at h19
   try simp only [zds] at h19
   refine qM ?_;refine qC ?_;refine qB ?_;refine Or.inr (Or.inl (zei [] (zei [0,1] (zei _ (zei _ (zei _ (zei _ (zei _ (zai (writeString_o _ _ _ (by rw [ints_len,yA];have:=hcl (by simpa using h19);omega)) (zai rfl (zai (zai (zai rfl rfl) (zai (zai rfl rfl) True.intro)) (zai rfl ?_))))))))))));refine qC ?_;refine qC ?_;refine qB ?_;refine Or.inl ?_;refine zai (rfl) ?_;refine zei _ (zai (hasPrefix_c _ _) ?_);refine qK rfl (fun h24=>?_) (fun h24=>?_)
   ·try simp only [Bool.not_eq_true'] at h24
    try simp only [zds] at h24
    have hpf : Lib.hasPrefix c.2.1 [34] = false:=by have:=h24;rw [← pre_b c.2.1 [34]];simpa using this
    refine qC ?_;refine qB ?_;refine Or.inr (Or.inl (zei [] (zei [0,1] (zei _ (zei _ (zei _ (zei _ (zei _ (zai (string_v _ _ (bytes (acc ++ c.1)) (ints_app _ _)) (zai rfl (zai (zai (zai rfl rfl) (zai (zai rfl rfl) True.intro)) (zai rfl ?_))))))))))));refine qL ?_;have e : inQA ((ls s).drop 1) = (acc ++ c.1,c.2.1,true):=by (unfold inQA;rw [hq,hq2,if_pos (by simpa using h19),if_neg (by rw [hpf];decide)];rfl)
    rw [e];rfl
   ·try simp only [Bool.not_eq_false'] at h24
    try simp only [zds] at h24
    have hpt : Lib.hasPrefix c.2.1 [34] = true:=by have:=h24;rw [← pre_b c.2.1 [34]];simpa using this
    obtain ⟨m,hm⟩:=pre_cons hpt;have hml : c.2.1.length = m.length + 1:=by rw [hm];rfl
    have hcl2:=hcl (by simpa using h19);refine qM ?_;refine qC ?_;refine qB ?_;refine Or.inr (Or.inl (zei [] (zei [0,1] (zei _ (zei _ (zei _ (zei _ (zei _ (zai (writeString_o _ _ _ (by rw [ints_app,ints_len,List.length_append];have h1 : ByteArray.size ⟨#[34]⟩ = 1:=rfl;omega)) (zai rfl (zai (zai (zai rfl rfl) (zai (zai rfl rfl) True.intro)) (zai rfl ?_))))))))))));refine qB ?_;refine zai (by rw [yA];omega) ?_;exact ⟨(true,c.2.1.drop 1,acc ++ c.1 ++ [34]),⟨by simp only [List.length_drop,List.length_append,List.length_singleton];omega,by simp only;rw [hq,hq2,if_pos (by simpa using h19),if_pos hpt,Option.map_map];congr 1;funext q;simp⟩,by first|omega|(simp <;> omega),qQ ⟨rfl,(is_eq (ext_dropS c.2.1 1))⟩ ⟨rfl,(yF (by rw [ints_app];exact ints_add _ _ _ rfl))⟩ rfl⟩
theorem next_yes {l : List UInt8} (h : Lib.hasPrefix l [34] = true) : nextA l = inQA (l.drop 1):=by
  obtain ⟨r,rfl⟩:=pre_cons h;unfold nextA inQA;rw [shNext,if_pos rfl]
  try rfl
theorem next_not {l : List UInt8} (h : Lib.hasPrefix l [34] = false) : shNext l = spanS l:=by
  cases l with
  | nil=>rfl
  | cons c r=>rw [shNext,if_neg (fun e=>by subst e;simp [Lib.hasPrefix] at h)]
theorem tup3b {a a' b b' : ByteArray} {c : Bool} (h1 : a = a') (h2 : b = b') : A.tup [(false,[.lit (.string a)]),(false,[.lit (.string b)]),(false,[.lit (.bool c)])] = A.tup [(false,[.lit (.string a')]),(false,[.lit (.string b')]),(false,[.lit (.bool c)])]:=by rw [h1,h2]
theorem row3_eq {a a' : List ByteArray} {b b' : ByteArray} {c : Bool} (h1 : a = a') (h2 : b = b') : A.tup [(false,[.sl .str a]),(false,[.lit (.string b)]),(false,[.lit (.bool c)])] = A.tup [(false,[.sl .str a']),(false,[.lit (.string b')]),(false,[.lit (.bool c)])]:=by rw [h1,h2]
theorem ext_t (s : ByteArray) (k : Nat) : s.extract 0 k = bytes ((ls s).take k):=by
  apply ByteArray.ext;apply Array.ext';rw [extract_ls,qT];rfl
theorem next_c (s : ByteArray) (hs : s.size ≤ 100000000) : qR Tryz.prog 79 [is s] (cutA (nextA (ls s))):=by
  have hz : s.size = (ls s).length:=qV s;obtain ⟨hx1,hx2⟩:=span_ix (ls s);refine qP (rs:=[2,3,4]) Tryz.func79 rfl rfl rfl teOk rfl ?_;refine qC ?_;refine qB ?_;refine qC ?_;refine qC ?_;refine qB ?_;refine Or.inl ?_;refine zai (rfl) ?_;refine zei _ (zai (hasPrefix_c s ⟨#[34]⟩) ?_);refine qK rfl (fun h7=>?_) (fun h7=>?_)
  ·skip
   have hp : Lib.hasPrefix (ls s) [34] = true:=h7;obtain ⟨m,hm⟩:=pre_cons hp;have hml : (ls s).length = m.length + 1:=by rw [hm];rfl
   refine qC ?_;refine qB ?_;refine Or.inl ?_;refine zai (rfl) ?_;refine zei _ (zai (inQuotes_c s (by omega) hs) ?_);refine qL ?_;rw [next_yes hp];rfl
  ·skip
   have hn:=next_not (l:=ls s) h7;refine qM ?_;refine qC ?_;refine qB ?_;refine Or.inl ?_;refine zai (rfl) ?_;refine zei _ (zai (idxAny_c s (by omega)) ?_);refine qC ?_;refine qC ?_;refine qB ?_;refine qK rfl (fun h16=>?_) (fun h16=>?_)
   ·try simp only [decide_eq_true_eq] at h16
    try simp only [zds] at h16
    refine qC ?_;refine qB ?_;refine qL ?_;have e : nextA (ls s) = ([],[],false):=by (unfold nextA;rw [hn,hx1 (by omega)])
    rw [e];rfl
   ·try simp only [decide_eq_false_iff_not,Int.not_lt] at h16
    try simp only [zds] at h16
    have hi0 : 0 ≤ Lib.indexAny (ls s) [44,10]:=by omega
    obtain ⟨hy1,hy2⟩:=hx2 hi0;refine qM ?_;refine qC ?_;refine acode_draw rfl (by kernel_rfl) ?_;refine zai (by omega) ?_;refine zai (by omega) ?_;refine qL ?_;have e : nextA (ls s) = ((ls s).take (Lib.indexAny (ls s) [44,10]).toNat,(ls s).drop (Lib.indexAny (ls s) [44,10]).toNat,true):=by (unfold nextA;rw [hn,hy1])
    rw [e];exact tup3b (ext_t s _) (ext_s s _)
def rowT (l : List UInt8) : List (List UInt8) × List UInt8 × Bool:=match shRow l with
  | some p=>(p.1,p.2,true)
  | none=>([],[],false)
def shRowA (c : List (List UInt8) × List UInt8 × Bool) : A:=.tup [(false,[.sl .str (c.1.map bytes)]),(false,[.lit (.string (bytes c.2.1))]),(false,[.lit (.bool c.2.2)])]
theorem nextA_no {l : List UInt8} (h : (nextA l).2.2 = false ∨ (nextA l).2.1 = []) : shRow l = none:=by
  rw [shrow_eq];unfold nextA at h;cases hn : shNext l with
  | none=>rfl
  | some p =>
    rw [hn] at h;obtain ⟨a,b⟩:=p;rcases h with h|h
    · cases h
    · have h : b = []:=h;subst h;rfl
theorem nextA_yes {l : List UInt8} (h1 : (nextA l).2.2 = true) (h2 : (nextA l).2.1 ≠ []) : ∃ d r,(nextA l).2.1 = d :: r ∧ (shRow l = if d = 10 then some ([(nextA l).1],r) else if d = 44 then (shRow r).map (fun p=>((nextA l).1 :: p.1,p.2)) else none) ∧ (nextA l).1.length + (r.length + 1) ≤ l.length:=by
  rw [shrow_eq];unfold nextA at h1 h2 ⊢;cases hn : shNext l with
  | none=>rw [hn] at h1;cases h1
  | some p =>
    rw [hn] at h2;obtain ⟨a,b⟩:=p;have hl:=shnext_len hn;cases b with
    | nil=>exact absurd rfl h2
    | cons d r=>exact ⟨d,r,rfl,rfl,by simpa using hl⟩
theorem next_v (s : ByteArray) (c : List UInt8 × List UInt8 × Bool) (hc : nextA (ls s) = c) (hs : s.size ≤ 100000000) : qR Tryz.prog 79 [is s] (cutA c):=by
  subst hc;exact next_c s hs
theorem bytes_nil {l : List UInt8} : bytes l = ⟨#[]⟩ ↔ l = []:=by
  constructor
  · intro h;have:=congrArg (fun b=>b.data.toList) h
    simpa [qT] using this
  · rintro rfl;rfl
theorem ext_one (d : UInt8) (r : List UInt8) : (bytes (d :: r)).extract 0 1 = bytes [d]:=by
  apply ByteArray.ext;apply Array.ext';rw [extract_ls,qT,qT];rfl
theorem one_inj {d e : UInt8} (h : bytes [d] = bytes [e]) : d = e:=by
  have:=congrArg (fun b=>b.data.toList) h
  simpa [qT] using this
theorem row_c (s : ByteArray) (hs : s.size ≤ 100000000) : qR Tryz.prog 50 [is s] (shRowA (rowT (ls s))):=by
  have hz : s.size = (ls s).length:=qV s;refine qP (rs:=[2,3,4]) Tryz.func50 rfl rfl rfl teOk rfl ?_;refine qC ?_;refine qB ?_;refine qC ?_;refine qB ?_;refine yL 5 9 .str rfl ?_;refine qN ?_;refine qU (fun (x : List UInt8 × List (List UInt8))=>x.2.length + x.1.length ≤ s.size ∧ shRow (ls s) = (shRow x.1).map (fun q=>(x.2 ++ q.1,q.2))) (fun (x : List UInt8 × List (List UInt8))=>[(0,is (bytes x.1)),(5,.one (.vec 0))]) (fun (x : List UInt8 × List (List UInt8))=>[(0,.vec 9 .str (x.2.map bytes))]) 1 (fun (x : List UInt8 × List (List UInt8))=>x.1.length) (ls s,[]) (⟨by simp only [List.length_nil];omega,by simp only [List.nil_append];cases shRow (ls s) <;> rfl⟩) (qQ ⟨(is_eq (xK s).symm),rfl⟩ rfl rfl) ?_;intro ⟨rest,acc⟩ hI0;simp only at hI0 ⊢;obtain ⟨hb,hq⟩:=hI0;obtain ⟨c,hc⟩ : ∃ c,nextA rest = c:=⟨_,rfl⟩;refine qN ?_;refine qC ?_;refine qB ?_;refine Or.inl ?_;refine zai (rfl) ?_;refine zei _ (zai (next_v _ c (by show nextA (bytes rest).data.toList = c;rw [qT];exact hc) (by rw [yA];omega)) ?_);refine qC ?_;refine qC ?_;refine qB ?_;refine zai (fun h=>trivial) ?_;refine zai (fun h=>⟨⟨h,trivial⟩,trivial⟩) ?_;refine zai (by first|(intro h;rw [h];rfl)|(intro h;cases h)) ?_;refine qK rfl (fun h20=>?_) (fun h20=>?_)
  ·try simp only [decide_eq_true_eq,Bool.not_eq_true',Bool.or_eq_true] at h20
   try simp only [zds] at h20
   have hno : shRow rest = none:=nextA_no (by rw [hc];exact h20.imp id bytes_nil.1);refine qC ?_;refine qB ?_;refine yL 2 9 .str rfl ?_;refine qL ?_;have e : rowT (ls s) = ([],[],false):=by (unfold rowT;rw [hq,hno];rfl)
   rw [e];rfl
  ·try simp only [decide_eq_false_iff_not,Bool.not_eq_false',Bool.or_eq_false_iff] at h20
   try simp only [zds] at h20
   obtain ⟨d,r,hd,hrow,hlen⟩:=nextA_yes (l:=rest) (by rw [hc];exact h20.1) (by rw [hc];exact fun e=>h20.2 (bytes_nil.2 e));rw [hc] at hd hrow hlen;have hsz : (bytes c.2.1).size = r.length + 1:=by rw [yA,hd];rfl
   have hx : (bytes c.2.1).extract 0 1 = bytes [d]:=by rw [hd];exact ext_one d r
   have hx1 : (bytes c.2.1).extract 1 (bytes c.2.1).size = bytes r:=by rw [ext_dropS,hd];rfl
   refine qM ?_;refine qC ?_;refine qB ?_;refine zai (by show (_ + 1) * 16 ≤ 140737488355328;rw [List.length_map];omega) ?_;refine qC ?_;refine qB ?_;refine zai (by omega) ?_;refine qN ?_;refine qC ?_;refine qB ?_;refine qK rfl (fun h27=>?_) (fun h27=>?_)
   ·try simp only [decide_eq_true_eq] at h27
    try simp only [zds] at h27
    have hd10 : d = 10:=one_inj (by rw [← hx];exact h27);refine qC ?_;refine acode_draw rfl (by kernel_rfl) ?_;refine zai (by omega) ?_;refine qL ?_;have e : rowT (ls s) = (acc ++ [c.1],r,true):=by (unfold rowT;rw [hq,hrow,if_pos hd10];rfl)
    rw [e];exact row3_eq (by rw [List.map_append];rfl) hx1
   ·try simp only [decide_eq_false_iff_not] at h27
    try simp only [zds] at h27
    have hd10 : d ≠ 10:=fun e=>h27 (by subst e;exact hx)
    refine qC ?_;refine qB ?_;refine qK rfl (fun h32=>?_) (fun h32=>?_)
    ·try simp only [decide_eq_true_eq] at h32
     try simp only [zds] at h32
     have hd44 : d = 44:=one_inj (by rw [← hx];exact h32);refine qB ?_;refine zai (by omega) ?_;exact ⟨(r,acc ++ [c.1]),⟨by simp only [List.length_append,List.length_singleton];omega,by simp only;rw [hq,hrow,if_neg hd10,if_pos hd44,Option.map_map];congr 1;funext q;simp⟩,by first|omega|(simp <;> omega),qQ ⟨(is_eq hx1),rfl⟩ (yF (by rw [List.map_append];rfl)) rfl⟩
    ·try simp only [decide_eq_false_iff_not] at h32
     try simp only [zds] at h32
     have hd44 : d ≠ 44:=fun e=>h32 (by subst e;exact hx)
     refine qC ?_;refine qB ?_;refine yL 2 9 .str rfl ?_;refine qL ?_;have e : rowT (ls s) = ([],[],false):=by (unfold rowT;rw [hq,hrow,if_neg hd10,if_neg hd44];rfl)
     rw [e];rfl
abbrev uns (r : List (List UInt8)) : List ByteArray:=r.map bytes
abbrev unt (t : List (List (List UInt8))) : List (List ByteArray):=t.map uns
theorem lss_uns (r : List (List UInt8)) : lss (uns r) = r:=by
  simp only [lss,uns,List.map_map]
  conv=>rhs;rw [← List.map_id r]
  exact List.map_congr_left fun x _=>qT x
theorem lst_unt (t : List (List (List UInt8))) : lst (unt t) = t:=by
  simp only [lst,unt,List.map_map]
  conv=>rhs;rw [← List.map_id t]
  exact List.map_congr_left fun x _=>lss_uns x
def mL (r : List (List UInt8)) : Nat:=(r.map fun s=>s.length + 1).sum
theorem mR_uns (r : List (List UInt8)) : mR (uns r) = mL r:=by
  simp only [mR,mL,uns,List.map_map];exact congrArg List.sum (List.map_congr_left fun x _=>by show (bytes x).size + 1 = _;rw [yA])
theorem row_meas (n : Nat) : ∀ {t : List UInt8} {row : List (List UInt8)} {more : List UInt8},t.length ≤ n → shRow t = some (row,more) → mL row + more.length ≤ t.length ∧ row ≠ []:=by
  induction n with
  | zero =>
    intro t row more hn h;have : t = []:=List.length_eq_zero_iff.1 (by omega);subst this;rw [shrow_eq] at h;cases h
  | succ n ih =>
    intro t row more hn h;rw [shrow_eq] at h;split at h
    · cases h
    · cases h
    · rename_i s c r hx;have:=shnext_len hx;simp only [List.length_cons] at this;split at h
      · cases h;simp [mL];omega
      · split at h
        · cases hq : shRow r with
          | none=>rw [hq] at h;cases h
          | some q =>
            rw [hq] at h;cases h;have:=(ih (t:=r) (row:=q.1) (more:=q.2) (by omega) hq).1;refine ⟨?_,by simp⟩;simp only [mL,List.map_cons,List.sum_cons] at this ⊢;omega
        · cases h
theorem mL_pos {r : List (List UInt8)} (h : r ≠ []) : 1 ≤ mL r:=by
  cases r with
  | nil=>exact absurd rfl h
  | cons a l=>simp [mL];omega
theorem mT_snoc (a : List (List (List UInt8))) (r : List (List UInt8)) : mT (unt (a ++ [r])) = mT (unt a) + mL r:=by
  rw [← mR_uns];simp [mT,unt,List.sum_append]
theorem good_snoc {a : List (List (List UInt8))} {r : List (List UInt8)} (h : xB a = true) (hr : r ≠ []) : xB (a ++ [r]) = true:=by
  simp only [xB,List.all_append,List.all_cons,List.all_nil,Bool.and_true,Bool.and_eq_true] at h ⊢;exact ⟨h,by cases r with
    | nil=>exact absurd rfl hr
    | cons _ _=>rfl⟩
theorem rowT_no {l : List UInt8} (h : (rowT l).2.2 = false) : shRow l = none:=by
  unfold rowT at h;cases hn : shRow l with
  | none=>rfl
  | some p=>rw [hn] at h;cases h
theorem rowT_yes {l : List UInt8} (h : (rowT l).2.2 = true) : shRow l = some ((rowT l).1,(rowT l).2.1):=by
  unfold rowT at h ⊢;cases hn : shRow l with
  | none=>rw [hn] at h;cases h
  | some p=>rfl
theorem row_v (s : ByteArray) (c : List (List UInt8) × List UInt8 × Bool) (hc : rowT (ls s) = c) (hs : s.size ≤ 100000000) : qR Tryz.prog 50 [is s] (shRowA c):=by
  subst hc;exact row_c s hs
theorem write_yes (rows : List (List ByteArray)) (hg : xB rows = true) (hm : mT rows ≤ 100000000) (hl : rows.length ≤ 100000000) : qR Tryz.prog 26 [.one (.sl (.sl .str) rows)] (.tup [(false,[.lit (.string (bytes (yK (lst rows))))]),(false,[.lit .nilIface])]):=by
  have:=Write_c rows hm hl;unfold shWrA at this
  rwa [if_pos hg] at this
def shReadA (o : Option (List (List (List UInt8)))) : A:=match o with
  | some rows=>.tup [(false,[.sl (.sl .str) (unt rows)]),(false,[.lit .nilIface])]
  | none=>.tup [(false,[.sl (.sl .str) []]),(false,[errN 2])]
theorem good_unt (t : List (List (List UInt8))) : xB (unt t) = xB t:=by
  simp only [xB,unt,List.all_map]
  congr 1;funext r;simp [uns]
theorem Read_c (s : ByteArray) (hs : s.size ≤ 60000) : qR Tryz.prog 27 [is s] (shReadA (shReadP (ls s))):=by
  have hz : s.size = (ls s).length:=qV s;refine qP (rs:=[2,3]) Tryz.func27 rfl rfl rfl teOk rfl ?_;refine qC ?_;refine qB ?_;refine qC ?_;refine qC ?_;refine qB ?_;refine qK rfl (fun h13=>?_) (fun h13=>?_)
  ·try simp only [decide_eq_true_eq] at h13
   try simp only [zds] at h13
   omega
  ·try simp only [decide_eq_false_iff_not,Int.not_lt] at h13
   try simp only [zds] at h13
   refine qM ?_;refine qC ?_;refine qB ?_;refine yL 4 22 (.sl .str) rfl ?_;refine qC ?_;refine qC ?_;refine qB ?_;refine qN ?_;refine qU (fun (x : List UInt8 × List (List (List UInt8)))=>mT (unt x.2) + x.1.length ≤ s.size ∧ x.2.length + x.1.length ≤ s.size ∧ xB x.2 = true ∧ shRows (ls s) = (shRows x.1).map (fun q=>x.2 ++ q)) (fun (x : List UInt8 × List (List (List UInt8)))=>[(0,is s),(4,.one (.vec 0)),(5,is (bytes x.1))]) (fun (x : List UInt8 × List (List (List UInt8)))=>[(0,.vec 22 (.sl .str) (unt x.2))]) 1 (fun (x : List UInt8 × List (List (List UInt8)))=>x.1.length) (ls s,[]) (⟨by show 0 + (ls s).length ≤ s.size;omega,by simp only [List.length_nil];omega,rfl,by simp only [List.nil_append];cases shRows (ls s) <;> rfl⟩) (qQ ⟨rfl,rfl,(is_eq (xK s).symm)⟩ rfl rfl) ?_;intro ⟨rest,acc⟩ hI0;simp only at hI0 ⊢;obtain ⟨hb,hb2,hg,hq⟩:=hI0;obtain ⟨c,hc⟩ : ∃ c,rowT rest = c:=⟨_,rfl⟩;refine qC ?_;refine qC ?_;refine qB ?_;refine qK rfl (fun h17=>?_) (fun h17=>?_)
   ·try simp only [decide_eq_false_iff_not,Bool.not_eq_true'] at h17
    try simp only [zds] at h17
    have hne : rest ≠ []:=fun e=>h17 (by rw [e];rfl)
    have hre:=shrows_eq rest hne;refine qM ?_;refine qN ?_;refine qC ?_;refine qB ?_;refine Or.inl ?_;refine zai (rfl) ?_;refine zei _ (zai (row_v _ c (by show rowT (bytes rest).data.toList = c;rw [qT];exact hc) (by rw [yA];omega)) ?_);refine qC ?_;refine qC ?_;refine qB ?_;refine qK rfl (fun h25=>?_) (fun h25=>?_)
    ·try simp only [Bool.not_eq_true'] at h25
     try simp only [zds] at h25
     have hno:=rowT_no (l:=rest) (by rw [hc];exact h25);refine qC ?_;refine qB ?_;refine yL 2 22 (.sl .str) rfl ?_;refine qL ?_;have e : shReadP (ls s) = none:=by (unfold shReadP;rw [hq,hre,hno];rfl)
     rw [e];rfl
    ·try simp only [Bool.not_eq_false'] at h25
     try simp only [zds] at h25
     have hr:=rowT_yes (l:=rest) (by rw [hc];simpa using h25);rw [hc] at hr;obtain ⟨hme,hcn⟩:=row_meas _ (Nat.le_refl _) hr;have hm1:=mL_pos hcn;refine qM ?_;refine qB ?_;refine zai (by show (_ + 1) * 24 ≤ 140737488355328;rw [List.length_map];omega) ?_;exact ⟨(c.2.1,acc ++ [c.1]),⟨by simp only;rw [mT_snoc];omega,by simp only [List.length_append,List.length_singleton];omega,good_snoc hg hcn,by simp only;rw [hq,hre,hr];simp only [Option.map_map];congr 1;funext q;simp⟩,by first|omega|(simp <;> omega),qQ ⟨rfl,rfl,rfl⟩ (yF (by show List.map uns acc ++ [uns c.1] = List.map uns (acc ++ [c.1]);rw [List.map_append];rfl)) rfl⟩
   ·try simp only [decide_eq_true_eq,Bool.not_eq_false'] at h17
    try simp only [zds] at h17
    have hnil : rest = []:=bytes_nil.1 h17;have hall : shRows (ls s) = some acc:=by rw [hq,hnil];simp [shRows]
    refine qY ?_;refine qC ?_;refine qC ?_;refine qB ?_;refine Or.inl ?_;refine zai (rfl) ?_;refine zei _ (zai (write_yes (unt acc) (by rw [good_unt];exact hg) (by omega) (by rw [List.length_map];omega)) ?_);refine qC ?_;refine qB ?_;refine zai (fun h=>trivial) ?_;refine zai (fun h=>trivial) ?_;refine zai (fun h=>⟨⟨h,trivial⟩,⟨h,trivial⟩,trivial⟩) ?_;refine zai (by first|(intro h;rw [h];rfl)|(intro h;cases h)) ?_;refine qK rfl (fun h43=>?_) (fun h43=>?_)
    ·try simp only [decide_eq_false_iff_not,Bool.not_eq_true',Bool.or_eq_true] at h43
     try simp only [zds] at h43
     refine qC ?_;refine qB ?_;refine yL 2 22 (.sl .str) rfl ?_;refine qL ?_;have e : shReadP (ls s) = none:=by (unfold shReadP;rw [hall];exact if_neg (fun h=>h43.elim (fun e=>by cases e) (fun e=>e (by rw [lst_unt,h.2,xK]))))
     rw [e];rfl
    ·try simp only [decide_eq_true_eq,Bool.not_eq_false',Bool.or_eq_false_iff] at h43
     try simp only [zds] at h43
     refine qM ?_;refine qC ?_;refine qB ?_;refine qL ?_;have e : shReadP (ls s) = some acc:=by (unfold shReadP;rw [hall];exact if_pos ⟨hg,by have:=h43.2;rw [lst_unt] at this;rw [← this,ls,qT]⟩)
     rw [e];rfl
end Q
end Ab
end Go.Proofs.YtehmiepjeffloaaGreatDoor
namespace Go.Proofs.YtehmiepjeffloaaGreatDoor
open Go.RowKit
namespace Ab
set_option maxRecDepth 100000
namespace Q
def cellsJ (row : List ByteArray) (j : Nat) : List UInt8:=Lib.join ((row.take j).map fun s=>xG (ls s) (decide (row.length = 1))) [44]
end Q
end Ab
end Go.Proofs.YtehmiepjeffloaaGreatDoor
namespace Go.Proofs.YtehmiepjeffloaaGreatDoor
open Go.RowKit
namespace Ab
set_option maxRecDepth 100000
namespace Q
def shRefA (o : Option (List (List (List UInt8)))) : A:=match o with
  | some rows=>.tup [(false,[.sl (.sl .str) (unt rows)]),(false,[.lit (.bool true)])]
  | none=>.tup [(false,[.sl (.sl .str) []]),(false,[.lit (.bool false)])]
end Q
end Ab
end Go.Proofs.YtehmiepjeffloaaGreatDoor
namespace Go.Proofs.YtehmiepjeffloaaGreatDoor
open Go.RowKit
namespace Ab
set_option maxRecDepth 100000
namespace Q
def refCutL (l : List UInt8) : List UInt8 × List UInt8 × Bool:=if 10 ∈ l then ([],[],false) else if ((Lib.cut l [58]).2.2 && keyOk (Lib.cut l [58]).1) = true then Lib.cut l [58] else ([],[],false)
theorem cut_none {l : List UInt8} {c : UInt8} (h : c ∉ l) : Lib.cut l [c] = (l,[],false):=by
  have hi : Lib.index l [c] = -1:=Lib.index_none fun j _=>Bool.eq_false_iff.2 fun e=>h (List.mem_of_getElem? ((occ_one _ _ _).1 e))
  unfold Lib.cut;rw [hi,if_neg (by omega)]
end Q
end Ab
end Go.Proofs.YtehmiepjeffloaaGreatDoor
namespace Go.Proofs.YtehmiepjeffloaaGreatDoor
open Go.RowKit
namespace Ab
set_option maxRecDepth 100000
namespace Q
end Q
end Ab
end Go.Proofs.YtehmiepjeffloaaGreatDoor
namespace Go.Proofs.YtehmiepjeffloaaGreatDoor
open Go.RowKit
namespace Ab
set_option maxRecDepth 100000
namespace Q
def lineB (key v : ByteArray) : List ByteArray:=(linesL key.data.toList v.data.toList).map bytes
theorem check_ok {f : Fld} (h : yM f = 0) : keyOk f.1.data.toList = true ∧ f.2.size ≤ 1000 ∧ f.1.size ≤ 32:=by
  unfold yM at h;split at h
  · rename_i hk;split at h
    · cases h
    · refine ⟨hk,by omega,?_⟩;have:=hk;unfold keyOk at this;simp only [Bool.and_eq_true,decide_eq_true_eq] at this;rw [qV];exact this.1.1.1.1.2
  · cases h
theorem stuff_len (s : List UInt8) : (stuffL s).length ≤ s.length + 1:=by
  unfold stuffL;split <;> simp
def linesA (f : Fld) : A:=if yM f = 0 then .tup [(false,[.sl .str (lineB f.1 f.2)]),(false,[.lit .nilIface])] else .tup [(false,[.sl .str []]),(false,[errN (yM f)])]
theorem linesA_bad {f : Fld} {n : Int} (h : yM f = n) (hn : n ≠ 0) : linesA f = .tup [(false,[.sl .str []]),(false,[errN n])]:=by
  unfold linesA;rw [if_neg (by rw [h];exact hn),h]
theorem linesA_ok {f : Fld} (h : yM f = 0) : linesA f = .tup [(false,[.sl .str (lineB f.1 f.2)]),(false,[.lit .nilIface])]:=by
  unfold linesA;rw [if_pos h]
theorem stuffed_v (s : ByteArray) (l : List UInt8) (hl : s.data.toList = l) (hs : l.length ≤ 1000000) : qR Tryz.prog 128 [is s] (is (bytes (stuffL l))):=by
  subst hl;exact stuffed_c s (by rw [qV];exact hs)
theorem first_b (k p : ByteArray) (h : ¬ p = ⟨#[]⟩) : (k ++ (⟨#[58]⟩ : ByteArray)) ++ ((⟨#[32]⟩ : ByteArray) ++ p) = bytes (firstL k.data.toList p.data.toList):=by
  have hp : p.data.toList ≠ []:=fun e=>h (emp.2 (by rw [e];rfl))
  unfold firstL;rw [if_neg hp,bytes_app,bytes_app,show (32 :: p.data.toList) = [32] ++ p.data.toList from rfl,bytes_app,show bytes k.data.toList = k from xK k,show bytes p.data.toList = p from xK p];rfl
theorem first_e (k p : ByteArray) (h : p = ⟨#[]⟩) : k ++ (⟨#[58]⟩ : ByteArray) = bytes (firstL k.data.toList p.data.toList):=by
  have hp : p.data.toList = []:=by rw [h]
  unfold firstL;rw [if_pos hp,List.append_nil,bytes_app,show bytes k.data.toList = k from xK k];rfl
theorem tupS_eq {xs ys : List ByteArray} (h : xs = ys) : A.tup [(false,[.sl .str xs]),(false,[.lit .nilIface])] = A.tup [(false,[.sl .str ys]),(false,[.lit .nilIface])]:=by rw [h]
theorem lineB_eq {key v : ByteArray} {ws : List ByteArray} (hsp : ws.map ls = partsL v.data.toList) (hpos : 0 < ws.length) : bytes (firstL key.data.toList (ws.getD 0 ByteArray.empty).data.toList) :: (ws.drop 1).map (fun s=>bytes (32 :: stuffL s.data.toList)) = lineB key v:=by
  unfold lineB linesL;rw [← hsp];cases ws with
  | nil=>cases hpos
  | cons w r=>simp [ls]
theorem lines_c (f : Fld) (hk : f.1.size ≤ 1000000) (hv : f.2.size ≤ 1000000) : qR Tryz.prog 110 [.agg (toL rFld f)] (linesA f):=by
  obtain ⟨ws,hws⟩ : ∃ ws,Lib.splitB ⟨#[10]⟩ 0 (Lib.countB f.2 ⟨#[10]⟩) f.2 = ws:=⟨_,rfl⟩;have hsz : ∀ x ∈ ws,x.size ≤ 1000000:=fun x hx=>Nat.le_trans (split_size _ _ _ x (hws ▸ hx)) hv
  have hlen : ws.length ≤ f.2.size + 1:=by rw [← hws];exact split_len _ _ (by decide)
  have hsp : ws.map ls = partsL f.2.data.toList:=by rw [← hws];exact split_ls _ _
  have hpos : 0 < ws.length:=by
    have:=split_ne f.2.data.toList [10];rw [← List.length_map (f:=ls),hsp];exact List.length_pos_iff.2 this
  refine qP (rs:=[2,3]) Tryz.func110 rfl rfl rfl teOk rfl ?_;refine qC ?_;refine qB ?_;refine qC ?_;refine qC ?_;rcases check_cases f with hc|hc|hc
  ·refine qB ?_;refine Or.inl ?_;refine zai (rfl) ?_;refine zei _ (zai ((check_v f 5 (by omega) hc : qR _ _ _ (.one (errN 5)))) ?_);refine qC ?_;refine qB ?_;refine qK rfl (fun h12=>?_) (fun h12=>?_)
   ·skip
    refine qC ?_;refine qB ?_;refine yL 2 9 .str rfl ?_;refine qL ?_;rw [linesA_bad hc (by decide)];rfl
   ·try simp only [zbq] at h12
    try simp only [zds] at h12
    cases h12
  ·refine qB ?_;refine Or.inl ?_;refine zai (rfl) ?_;refine zei _ (zai ((check_v f 6 (by omega) hc : qR _ _ _ (.one (errN 6)))) ?_);refine qC ?_;refine qB ?_;refine qK rfl (fun h12=>?_) (fun h12=>?_)
   ·skip
    refine qC ?_;refine qB ?_;refine yL 2 9 .str rfl ?_;refine qL ?_;rw [linesA_bad hc (by decide)];rfl
   ·try simp only [zbq] at h12
    try simp only [zds] at h12
    cases h12
  ·refine qB ?_;refine Or.inl ?_;refine zai (rfl) ?_;refine zei _ (zai ((check_v f 0 (by omega) hc : qR _ _ _ (.one (.lit .nilIface)))) ?_);refine qC ?_;refine qB ?_;refine qK rfl (fun h12=>?_) (fun h12=>?_)
   ·try simp only [Bool.not_eq_true'] at h12
    try simp only [zds] at h12
    cases h12
   ·try simp only [Bool.not_eq_false'] at h12
    try simp only [zds] at h12
    have hdl : (ws.drop 1).length = ws.length - 1:=List.length_drop;obtain ⟨hko,hv1,hk1⟩:=check_ok hc;obtain ⟨p0,hp0⟩ : ∃ p,ws.getD 0 ByteArray.empty = p:=⟨_,rfl⟩;have hp0s : p0.size ≤ 1000000:=by rw [← hp0];exact hsz _ (yW hpos _)
    refine qM ?_;refine qC ?_;refine qB ?_;refine Or.inl ?_;refine zai (rfl) ?_;refine zei _ (zai (split_v f.2 ⟨#[10]⟩ ws hws (by omega) (by decide)) ?_);refine qC ?_;refine qB ?_;refine zai (by (have hk0 : ByteArray.size { data:=#[58] } = 1:=rfl;first|(unfold maxLen;omega)|(simp only [ByteArray.size_append];omega)|(unfold maxLen;(try simp only [ByteArray.size_append]);omega))) ?_;refine acode_cut (fun (u : Unit)=>True) (fun (u : Unit)=>[(5,.one (.sl .str ws)),(6,.one (.vec 1))]) (fun (u : Unit)=>[(1,.vec 9 .str [bytes (firstL f.1.data.toList p0.data.toList)])]) 2 ?_ ?_
    ·refine qC ?_;refine qB ?_;refine zai (by first|omega|assumption|decide|(simp only [zds];omega)|(simp <;> omega)) ?_;refine qK rfl (fun h24=>?_) (fun h24=>?_)
     ·try simp only [decide_eq_false_iff_not,Bool.not_eq_true'] at h24
      try simp only [qE] at h24
      have hq : (ws.getD (Int.toNat 0) (Rd.str).dflt).size ≤ 1000000:=hsz _ (yW hpos _);have hk2 : ([f.1 ++ (⟨#[58]⟩ : ByteArray)].getD (Int.toNat 0) (Rd.str).dflt).size ≤ 1000:=by show (f.1 ++ (⟨#[58]⟩ : ByteArray)).size ≤ _;rw [ByteArray.size_append,show ByteArray.size ⟨#[58]⟩ = 1 from rfl];omega
      refine acode_ord rfl ?_;refine qJ 0 rfl rfl rfl (by kernel_rfl) ?_;refine qJ 1 rfl rfl rfl (by kernel_rfl) ?_;refine zai (by first|omega|assumption|decide|(simp only [zds];omega)|(simp <;> omega)) ?_;refine qJ 3 rfl rfl rfl (by kernel_rfl) ?_;refine qJ 4 rfl rfl rfl (by kernel_rfl) ?_;refine zai (by first|omega|assumption|decide|(simp only [zds];omega)|(simp <;> omega)) ?_;refine qI [2,5] (by kernel_rfl) rfl ?_;refine zai ?_ ?_
      ·refine zai (by exact Nat.zero_lt_one) ?_;refine qI [5] (by kernel_rfl) rfl ?_;refine qJ 6 rfl rfl rfl (by kernel_rfl) ?_;refine zai (by (have hk0 : ByteArray.size { data:=#[32] } = 1:=rfl;first|(unfold maxLen;omega)|(simp only [ByteArray.size_append];omega)|(unfold maxLen;(try simp only [ByteArray.size_append]);omega))) ?_;refine qJ 7 rfl rfl rfl (by kernel_rfl) ?_;refine zai (by (have hk0 : ByteArray.size { data:=#[32] } = 1:=rfl;first|(unfold maxLen;omega)|(simp only [ByteArray.size_append];omega)|(unfold maxLen;(try simp only [ByteArray.size_append]);omega))) ?_;refine qJ 8 rfl rfl rfl (by kernel_rfl) ?_;refine zai (by first|omega|assumption|decide|(simp only [zds];omega)|(simp <;> omega)) ?_;refine qI [9] (by kernel_rfl) rfl ?_;refine zai (by exact Nat.zero_lt_one) ?_;refine qO (by kernel_rfl) ?_;exact ⟨(),trivial,qQ ⟨rfl,rfl⟩ (yF (congrArg (fun x=>[x]) (by rw [← hp0];exact first_b _ _ h24))) rfl⟩
      ·refine qJ 6 rfl rfl rfl (by kernel_rfl) ?_;refine zai (by (have hk0 : ByteArray.size { data:=#[32] } = 1:=rfl;first|(unfold maxLen;omega)|(simp only [ByteArray.size_append];omega)|(unfold maxLen;(try simp only [ByteArray.size_append]);omega))) ?_;refine qI [2] (by kernel_rfl) rfl ?_;refine zai (by exact Nat.zero_lt_one) ?_;refine qJ 7 rfl rfl rfl (by kernel_rfl) ?_;refine zai (by (have hk0 : ByteArray.size { data:=#[32] } = 1:=rfl;first|(unfold maxLen;omega)|(simp only [ByteArray.size_append];omega)|(unfold maxLen;(try simp only [ByteArray.size_append]);omega))) ?_;refine qJ 8 rfl rfl rfl (by kernel_rfl) ?_;refine zai (by first|omega|assumption|decide|(simp only [zds];omega)|(simp <;> omega)) ?_;refine qI [9] (by kernel_rfl) rfl ?_;refine zai (by exact Nat.zero_lt_one) ?_;refine qO (by kernel_rfl) ?_;exact ⟨(),trivial,qQ ⟨rfl,rfl⟩ (yF (congrArg (fun x=>[x]) (by rw [← hp0];exact first_b _ _ h24))) rfl⟩
     ·try simp only [decide_eq_true_eq,Bool.not_eq_false'] at h24
      try simp only [qE] at h24
      refine qM ?_;exact ⟨(),trivial,qQ ⟨rfl,rfl⟩ (yF (congrArg (fun x=>[x]) (by rw [← hp0];exact first_e _ _ h24))) rfl⟩
    ·intro u hcut8;refine qC ?_;refine qC ?_;refine qB ?_;refine zai (by first|omega|assumption|decide|(simp only [zds];omega)|(simp <;> omega)) ?_;intro l8_2
     try simp only [zds] at l8_2
     refine qN ?_;refine qU (fun (i : Nat)=>i ≤ (ws.drop 1).length) (fun (i : Nat)=>[(6,.one (.vec 1)),(35,.one (.sl .str (ws.drop 1))),(36,ii .i64 (ws.drop 1).length),(37,ii .i64 i)]) (fun (i : Nat)=>[(1,.vec 9 .str (bytes (firstL f.1.data.toList p0.data.toList) :: ((ws.drop 1).take i).map fun s=>bytes (32 :: stuffL s.data.toList)))]) 2 (fun (i : Nat)=>(ws.drop 1).length - i) 0 (Nat.zero_le _) (qQ ⟨rfl,(sl_eq rfl),(yP rfl),rfl⟩ rfl rfl) ?_;intro i hI0;have hi:=hI0;refine qC ?_;refine qB ?_;refine qC ?_;refine qK rfl (fun h38=>?_) (fun h38=>?_)
     ·try simp only [decide_eq_true_eq] at h38
      try simp only [zds] at h38
      have hlt : i < (ws.drop 1).length:=by omega
      have hm : ((ws.drop 1).getD i ByteArray.empty).size ≤ 1000000:=hsz _ (List.mem_of_mem_drop (yW hlt _));have hst : (bytes (stuffL ((ws.drop 1).getD i ByteArray.empty).data.toList)).size ≤ 1000001:=by rw [yA];have:=stuff_len ((ws.drop 1).getD i ByteArray.empty).data.toList;rw [qV] at hm;omega
      refine qM ?_;refine qC ?_;refine qN ?_;refine qC ?_;refine qB ?_;refine zai (by first|omega|assumption|decide|(simp only [zds];omega)|(simp <;> omega)) ?_;refine qB ?_;refine Or.inl ?_;refine zai (rfl) ?_;refine zei _ (zai (stuffed_v _ _ rfl (by rw [← qV];exact hm)) ?_);refine zai (by unfold maxLen;rw [show ByteArray.size ⟨#[32]⟩ = 1 from rfl,Int.toNat_natCast];exact Nat.le_trans (Nat.add_le_add_left hst 1) (by decide)) ?_;refine zai (by show (_ + 1) * 16 ≤ 140737488355328;rw [List.length_cons,List.length_map,List.length_take];omega) ?_;refine qB ?_;refine zai (by first|omega|assumption|decide|(simp only [zds];omega)|(simp <;> omega)) ?_;exact ⟨i + 1,by omega,by first|omega|(simp <;> omega),qQ ⟨rfl,rfl,rfl,(yP (by omega))⟩ (yF (by rw [← map_snoc (fun s : ByteArray=>bytes (32 :: stuffL s.data.toList)) ByteArray.empty hlt,← List.cons_append,show bytes (32 :: stuffL ((ws.drop 1).getD i ByteArray.empty).data.toList) = bytes [32] ++ bytes (stuffL ((ws.drop 1).getD i ByteArray.empty).data.toList) from bytes_app [32] _];rfl)) rfl⟩
     ·try simp only [decide_eq_false_iff_not,Int.not_lt] at h38
      try simp only [zds] at h38
      refine qY ?_;refine qC ?_;refine qB ?_;refine qL ?_;rw [linesA_ok hc];exact tupS_eq (by rw [List.take_of_length_le (by omega),← lineB_eq hsp hpos,hp0])
end Q
end Ab
end Go.Proofs.YtehmiepjeffloaaGreatDoor
namespace Go.Proofs.YtehmiepjeffloaaGreatDoor
open Go.RowKit
namespace Ab
set_option maxRecDepth 100000
namespace Q
def endL (ls : List (List UInt8)) : List UInt8:=ls.flatMap fun s=>s ++ [10]
def textL (f : Fld) : List UInt8:=endL (linesL f.1.data.toList f.2.data.toList)
def foldL (l : List Fld) : List UInt8:=l.flatMap textL
def badF (l : List Fld) : Int:=match l with
  | []=>0
  | f :: r=>if yM f = 0 then badF r else yM f
theorem badF_ok : ∀ {l : List Fld},(∀ f ∈ l,yM f = 0) → badF l = 0
  | [],_=>rfl
  | f :: r,h=>by unfold badF;rw [if_pos (h f (by simp)),badF_ok fun g hg=>h g (by simp [hg])]
theorem badF_at : ∀ {l : List Fld} {i : Nat} (d : Fld),i < l.length → (∀ f ∈ l.take i,yM f = 0) → yM (l.getD i d) ≠ 0 → badF l = yM (l.getD i d)
  | f :: r,0,d,_,_,h=>by unfold badF;rw [if_neg (by simpa using h)];rfl
  | f :: r,i + 1,d,hi,ht,h=>by
    unfold badF;rw [if_pos (ht f (by simp)),badF_at d (by simpa using hi) (fun g hg=>ht g (by simp [hg])) (by simpa using h)];simp
theorem endL_snoc (ps : List (List UInt8)) (k : Nat) (h : k < ps.length) : endL (ps.take (k + 1)) = endL (ps.take k) ++ (ps.getD k [] ++ [10]):=by
  rw [← yQ [] h];simp [endL]
theorem foldL_snoc (l : List Fld) (i : Nat) (d : Fld) (h : i < l.length) : foldL (l.take (i + 1)) = foldL (l.take i) ++ textL (l.getD i d):=by
  rw [← yQ d h];simp [foldL]
theorem flat_le {α : Type} (g : α → List UInt8) (B : Nat) : ∀ l : List α,(∀ x ∈ l,(g x).length ≤ B) → (l.flatMap g).length ≤ l.length * B
  | [],_=>by simp
  | x :: l,h=>by
    rw [List.flatMap_cons,List.length_append,List.length_cons,Nat.succ_mul];have:=h x (by simp);have:=flat_le g B l fun y hy=>h y (by simp [hy])
    omega
theorem line_len {k v : List UInt8} (hk : k.length ≤ 32) (hv : v.length ≤ 1000) : (linesL k v).length ≤ 2000 ∧ ∀ s ∈ linesL k v,s.length ≤ 2000:=by
  have hp : ∀ p ∈ partsL v,p.length ≤ v.length:=fun p hp=>split_mem hp
  have hl : (partsL v).length ≤ v.length + 1:=by
    have:=split_len (bytes [10]) (bytes v) (by decide);have h2:=congrArg List.length (split_ls (bytes [10]) (bytes v));rw [List.length_map] at h2;rw [h2] at this;unfold ls at this;rw [qT,qT,yA] at this;exact this
  refine ⟨?_,fun s hs=>?_⟩
  · unfold linesL;simp only [List.length_cons,List.length_map,List.length_drop];omega
  · unfold linesL at hs;rcases List.mem_cons.1 hs with rfl|hs
    · unfold firstL;have h0 : ((partsL v).headD []).length ≤ v.length:=by
        cases e : partsL v with
        | nil=>exact absurd e (split_ne v [10])
        | cons p ps=>rw [e] at hp;exact hp p (by simp)
      have h1 : (if (partsL v).headD [] = [] then [] else 32 :: (partsL v).headD [] : List UInt8).length ≤ ((partsL v).headD []).length + 1:=by split <;> simp
      simp only [List.length_append,List.length_cons,List.length_nil];omega
    · obtain ⟨q,hq,rfl⟩:=List.mem_map.1 hs;have:=stuff_len q;have:=hp q (List.mem_of_mem_drop hq);simp only [List.length_cons];omega
theorem text_len {f : Fld} (h : yM f = 0) : (textL f).length ≤ 5000000 ∧ ∀ k,(endL ((linesL f.1.data.toList f.2.data.toList).take k)).length ≤ 5000000:=by
  obtain ⟨_,h2,h3⟩:=check_ok h;rw [qV] at h2 h3;obtain ⟨h4,h5⟩:=line_len h3 h2;have : ∀ ps : List (List UInt8),ps.length ≤ 2000 → (∀ s ∈ ps,s.length ≤ 2000) → (endL ps).length ≤ 5000000:=fun ps hl hs=>by
    have:=flat_le (fun s : List UInt8=>s ++ [10]) 2001 ps (fun s h=>by have:=hs s h;simp;omega);unfold endL;have : ps.length * 2001 ≤ 2000 * 2001:=Nat.mul_le_mul_right _ hl;omega
  exact ⟨this _ h4 h5,fun k=>this _ (by rw [List.length_take];omega) fun s hs=>h5 s (List.mem_of_mem_take hs)⟩
def foldA (l : List Fld) : A:=if badF l = 0 then .tup [(false,[.lit (.string (bytes (foldL l)))]),(false,[.lit .nilIface])] else .tup [(false,[.lit (.string ⟨#[]⟩)]),(false,[errN (badF l)])]
theorem lineB_get {k v : ByteArray} {j : Nat} (h : j < (lineB k v).length) : (lineB k v).getD j ByteArray.empty = bytes ((linesL k.data.toList v.data.toList).getD j []):=by
  unfold lineB at *;rw [List.length_map] at h;rw [List.getD_eq_getElem?_getD,List.getElem?_map,List.getD_eq_getElem?_getD,List.getElem?_eq_getElem h];rfl
theorem fold_c {κ : Nat} (l : List Fld) (hl : FldsOk l) : qR Tryz.prog 95 [.one (.slk κ rFld l)] (foldA l):=by
  have hln:=hl.1;refine qP (rs:=[2,3]) Tryz.func95 rfl rfl rfl teOk rfl ?_;refine qC ?_;refine qB ?_;refine qC ?_;refine qB ?_;refine qC ?_;refine qC ?_;refine acode_bld 0 5 (.int .u8) rfl ?_;refine qB ?_;intro l2_1
  try simp only [zds] at l2_1
  refine qN ?_;refine qU (fun (x : Nat × Bool)=>x.1 ≤ l.length ∧ ∀ f ∈ l.take x.1,yM f = 0) (fun (x : Nat × Bool)=>[(4,.one (.own 0 0)),(11,.one (.slk κ rFld l)),(12,ii .i64 l.length),(13,ii .i64 x.1)]) (fun (x : Nat × Bool)=>[(0,.box 119 [.nself x.2 0,.vec 1]),(1,.vec 5 (.int .u8) (yX (bytes (foldL (l.take x.1)))))]) 2 (fun (x : Nat × Bool)=>l.length - x.1) (0,false) (⟨Nat.zero_le _,by simp⟩) (qQ ⟨rfl,rfl,rfl,rfl⟩ ⟨rfl,rfl⟩ rfl) ?_;intro ⟨i,u⟩ hI0;simp only at hI0 ⊢;obtain ⟨hi,hall⟩:=hI0;refine qC ?_;refine qB ?_;refine qC ?_;refine qK rfl (fun h14=>?_) (fun h14=>?_)
  ·try simp only [decide_eq_true_eq] at h14
   try simp only [zds] at h14
   have hlt : i < l.length:=by omega
   have hm:=hl.2 _ (yW hlt (ByteArray.empty,ByteArray.empty));have hfl : (foldL (l.take i)).length ≤ 1000 * 5000000:=by refine Nat.le_trans (flat_le textL 5000000 _ fun f hf=>(text_len (hall f hf)).1) (Nat.mul_le_mul_right _ (by rw [List.length_take];omega))
   refine qM ?_;refine qC ?_;refine qN ?_;refine qC ?_;refine qB ?_;refine zai (by first|omega|assumption|decide|(simp only [zds];omega)|(simp <;> omega)) ?_;refine qC ?_;rcases check_cases (l.getD i (ByteArray.empty,ByteArray.empty)) with hc|hc|hc
   ·refine qB ?_;refine Or.inl ?_;refine zai (rfl) ?_;refine zei _ (zai ((by have:=lines_c (l.getD i (ByteArray.empty,ByteArray.empty)) hm.1 hm.2;rw [linesA_bad hc (by decide)] at this;exact this)) ?_);refine qC ?_;refine qC ?_;refine qB ?_;refine qK rfl (fun h23=>?_) (fun h23=>?_)
    ·skip
     refine qC ?_;refine qB ?_;refine qL ?_;have hb : badF l = 5:=by rw [badF_at (ByteArray.empty,ByteArray.empty) hlt hall (by rw [hc];decide),hc]
     unfold foldA;rw [if_neg (by rw [hb];decide),hb];rfl
    ·try simp only [zbq] at h23
     try simp only [zds] at h23
     cases h23
   ·refine qB ?_;refine Or.inl ?_;refine zai (rfl) ?_;refine zei _ (zai ((by have:=lines_c (l.getD i (ByteArray.empty,ByteArray.empty)) hm.1 hm.2;rw [linesA_bad hc (by decide)] at this;exact this)) ?_);refine qC ?_;refine qC ?_;refine qB ?_;refine qK rfl (fun h23=>?_) (fun h23=>?_)
    ·skip
     refine qC ?_;refine qB ?_;refine qL ?_;have hb : badF l = 6:=by rw [badF_at (ByteArray.empty,ByteArray.empty) hlt hall (by rw [hc];decide),hc]
     unfold foldA;rw [if_neg (by rw [hb];decide),hb];rfl
    ·try simp only [zbq] at h23
     try simp only [zds] at h23
     cases h23
   ·refine qB ?_;refine Or.inl ?_;refine zai (rfl) ?_;refine zei _ (zai ((by have:=lines_c (l.getD i (ByteArray.empty,ByteArray.empty)) hm.1 hm.2;rw [linesA_ok hc] at this;exact this)) ?_);refine qC ?_;refine qC ?_;refine qB ?_;refine qK rfl (fun h23=>?_) (fun h23=>?_)
    ·try simp only [Bool.not_eq_true'] at h23
     try simp only [zds] at h23
     cases h23
    ·try simp only [Bool.not_eq_false'] at h23
     try simp only [zds] at h23
     obtain ⟨ps,hps⟩ : ∃ ps,lineB (l.getD i (ByteArray.empty,ByteArray.empty)).1 (l.getD i (ByteArray.empty,ByteArray.empty)).2 = ps:=⟨_,rfl⟩;refine qM ?_;refine qC ?_;refine qB ?_;intro l8_1
     try simp only [zds] at l8_1
     refine qN ?_;refine qU (fun (y : Nat × Bool)=>y.1 ≤ (lineB (l.getD i (ByteArray.empty,ByteArray.empty)).1 (l.getD i (ByteArray.empty,ByteArray.empty)).2).length) (fun (y : Nat × Bool)=>[(4,.one (.own 0 0)),(11,.one (.slk κ rFld l)),(12,ii .i64 l.length),(13,ii .i64 i),(25,.one (.sl .str (lineB (l.getD i (ByteArray.empty,ByteArray.empty)).1 (l.getD i (ByteArray.empty,ByteArray.empty)).2))),(26,ii .i64 (lineB (l.getD i (ByteArray.empty,ByteArray.empty)).1 (l.getD i (ByteArray.empty,ByteArray.empty)).2).length),(27,ii .i64 y.1)]) (fun (y : Nat × Bool)=>[(0,.box 119 [.nself y.2 0,.vec 1]),(1,.vec 5 (.int .u8) (yX (bytes (foldL (l.take i) ++ endL ((linesL (l.getD i (ByteArray.empty,ByteArray.empty)).1.data.toList (l.getD i (ByteArray.empty,ByteArray.empty)).2.data.toList).take y.1)))))]) 2 (fun (y : Nat × Bool)=>(lineB (l.getD i (ByteArray.empty,ByteArray.empty)).1 (l.getD i (ByteArray.empty,ByteArray.empty)).2).length - y.1) (0,u) (Nat.zero_le _) (qQ ⟨rfl,rfl,rfl,rfl,rfl,rfl,rfl⟩ ⟨rfl,(yF (by simp [endL]))⟩ rfl) ?_;intro ⟨k,u2⟩ hI2;simp only at hI2 ⊢;have hk:=hI2;refine qC ?_;refine qB ?_;refine qC ?_;refine qK rfl (fun h28=>?_) (fun h28=>?_)
     ·try simp only [decide_eq_true_eq] at h28
      try simp only [zds] at h28
      have hlk : k < (lineB (l.getD i (ByteArray.empty,ByteArray.empty)).1 (l.getD i (ByteArray.empty,ByteArray.empty)).2).length:=by omega
      have hg:=lineB_get hlk;have hlk2 : k < (linesL (l.getD i (ByteArray.empty,ByteArray.empty)).1.data.toList (l.getD i (ByteArray.empty,ByteArray.empty)).2.data.toList).length:=by unfold lineB at hlk;rw [List.length_map] at hlk;exact hlk
      have hgs : ((lineB (l.getD i (ByteArray.empty,ByteArray.empty)).1 (l.getD i (ByteArray.empty,ByteArray.empty)).2).getD k ByteArray.empty).size ≤ 2000:=by rw [hg,yA];obtain ⟨_,h2,h3⟩:=check_ok hc;rw [qV] at h2 h3;exact (line_len h3 h2).2 _ (yW hlk2 _)
      have hen:=(text_len hc).2 k;refine qM ?_;refine qC ?_;refine qN ?_;refine qC ?_;refine qB ?_;refine zai (by first|omega|assumption|decide|(simp only [zds];omega)|(simp <;> omega)) ?_;refine qB ?_;refine zai (by unfold maxLen;rw [Int.toNat_natCast];exact Nat.le_trans (Nat.add_le_add_right hgs 1) (by decide)) ?_;refine Or.inr (Or.inl (zei [] (zei [0,1] (zei _ (zei _ (zei _ (zei _ (zei _ (zai (writeString_o _ _ _ (by rw [ints_len,List.length_append,ByteArray.size_append,Int.toNat_natCast,show ByteArray.size ⟨#[10]⟩ = 1 from rfl];have:=hgs;show _ + (((lineB (l.getD i (ByteArray.empty,ByteArray.empty)).1 (l.getD i (ByteArray.empty,ByteArray.empty)).2).getD k ByteArray.empty).size + 1) ≤ _;omega)) (zai rfl (zai (zai (zai rfl rfl) (zai (zai rfl rfl) True.intro)) (zai rfl ?_))))))))))));refine qB ?_;refine zai (by first|omega|assumption|decide|(simp only [zds];omega)|(simp <;> omega)) ?_;exact ⟨(k + 1,true),(by simp only;omega),by first|omega|(simp <;> omega),qQ ⟨rfl,rfl,rfl,rfl,rfl,rfl,(yP (by simp only;omega))⟩ ⟨rfl,(yF (by simp only;rw [endL_snoc _ _ hlk2,← List.append_assoc];exact ints_add _ _ _ (by rw [bytes_app,← hg];rfl)))⟩ rfl⟩
     ·try simp only [decide_eq_false_iff_not,Int.not_lt] at h28
      try simp only [zds] at h28
      refine qY ?_;refine qB ?_;refine zai (by first|omega|assumption|decide|(simp only [zds];omega)|(simp <;> omega)) ?_;exact ⟨(i + 1,u2),⟨by simp only;omega,by simp only;rw [← yQ (ByteArray.empty,ByteArray.empty) hlt];intro f hf;rcases List.mem_append.1 hf with h|h;exact hall f h;rw [List.mem_singleton.1 h];exact hc⟩,by first|omega|(simp <;> omega),qQ ⟨rfl,rfl,rfl,(yP (by simp only;omega))⟩ ⟨rfl,(yF (by simp only;rw [foldL_snoc l i (ByteArray.empty,ByteArray.empty) hlt,show List.take k (linesL (l.getD i (ByteArray.empty,ByteArray.empty)).1.data.toList (l.getD i (ByteArray.empty,ByteArray.empty)).2.data.toList) = linesL (l.getD i (ByteArray.empty,ByteArray.empty)).1.data.toList (l.getD i (ByteArray.empty,ByteArray.empty)).2.data.toList from List.take_of_length_le (by unfold lineB at h28;rw [List.length_map] at h28;omega)];rfl))⟩ rfl⟩
  ·try simp only [decide_eq_false_iff_not,Int.not_lt] at h14
   try simp only [zds] at h14
   refine qY ?_;refine qC ?_;refine qB ?_;refine Or.inr (Or.inl (zei [] (zei [0,1] (zei _ (zei _ (zei _ (zei _ (zei _ (zai (string_o _ _) (zai rfl (zai (zai (zai rfl rfl) (zai (zai rfl rfl) True.intro)) (zai rfl ?_))))))))))));refine qL ?_;rw [List.take_of_length_le (by omega)] at hall ⊢;unfold foldA;rw [if_pos (badF_ok hall)];rfl
end Q
end Ab
end Go.Proofs.YtehmiepjeffloaaGreatDoor
namespace Go.Proofs.YtehmiepjeffloaaGreatDoor
open Go.RowKit
namespace Ab
set_option maxRecDepth 100000
namespace Q
theorem fold_yes {κ : Nat} {l : List Fld} (hl : FldsOk l) (h : badF l = 0) : qR Tryz.prog 95 [.one (.slk κ rFld l)] (.tup [(false,[.lit (.string (bytes (foldL l)))]),(false,[.lit .nilIface])]):=by
  have:=fold_c (κ:=κ) l hl;unfold foldA at this;rw [if_pos h] at this;exact this
end Q
end Ab
end Go.Proofs.YtehmiepjeffloaaGreatDoor
namespace Go.Proofs.YtehmiepjeffloaaGreatDoor
open Go.RowKit
namespace Ab
set_option maxRecDepth 100000
namespace Q
def partB (s : ByteArray) : List ByteArray:=(partsL s.data.toList).map bytes
end Q
end Ab
end Go.Proofs.YtehmiepjeffloaaGreatDoor
namespace Go.Proofs.YtehmiepjeffloaaGreatDoor
open Go.RowKit
namespace Ab
set_option maxRecDepth 100000
namespace Q
theorem list_ext_take {α : Type} {a b : List α} {i : Nat} (d : α) (ha : i < a.length) (hb : i < b.length) (h : a.take i = b.take i) (he : a.getD i d = b.getD i d) : a.take (i + 1) = b.take (i + 1):=by
  rw [← yQ d ha,← yQ d hb,h,he]
theorem ne_at {α : Type} {a b : List α} {i : Nat} (d : α) (he : a.getD i d ≠ b.getD i d) : ¬ a = b:=fun e=>he (by rw [e])
abbrev rFault : Rd (Int × Value):=.st (.int .i64) .raw
def errF (at_ n : Int) : C:=.ifc 96 (.addr rFault (at_,.iface 41 (.int .i64 n)))
end Q
end Ab
end Go.Proofs.YtehmiepjeffloaaGreatDoor
