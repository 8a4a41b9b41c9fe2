/-
  The table of types of this seat, as the program has them. No condition.
-/
import Derived.Test.YthlfbpmbkcoclaaDoorRows
import Derived.Test.YthlfbpmbkcoclaaDoorAbTy
namespace Go.Proofs.YthlfbpmbkcoclaaDoor
open Go.RowKit
namespace Ab

def ty9 : TyI := ⟨.str, 1, 16, [.string ⟨#[]⟩], some ⟨_, .str⟩, true⟩
theorem tyOk9 : TyOk Tryd.prog 9 ty9 := tyOk_of (by kernel_rfl) Tryd.underlying9 rfl (by decide) rfl (fun _ _ h => by cases h; rfl) (fun _ => by kernel_rfl)
def ty3 : TyI := ⟨.int .i64, 1, 8, [.int .i64 0], some ⟨_, (.int .i64)⟩, true⟩
theorem tyOk3 : TyOk Tryd.prog 3 ty3 := tyOk_of (by kernel_rfl) Tryd.underlying3 rfl (by decide) rfl (fun _ _ h => by cases h; rfl) (fun _ => by kernel_rfl)
def ty62 : TyI := ⟨.slice 9, 1, 24, [.slice none 0 0], some ⟨_, (.sl .str)⟩, false⟩
theorem tyOk62 : TyOk Tryd.prog 62 ty62 := tyOk_of (by kernel_rfl) Tryd.underlying62 rfl (by decide) rfl (fun _ _ h => by cases h; rfl) (fun h => by cases h)
def ty57 : TyI := ⟨.struct [(0, 9), (1, 9)], 2, 32, [.string ⟨#[]⟩, .string ⟨#[]⟩], some ⟨_, (.st .str .str)⟩, true⟩
theorem tyOk57 : TyOk Tryd.prog 57 ty57 := tyOk_of (by kernel_rfl) ⟨by kernel_rfl, by kernel_rfl, by kernel_rfl, by kernel_rfl, by kernel_rfl⟩ rfl (by decide) rfl (fun _ _ h => by cases h; rfl) (fun _ => by kernel_rfl)
def ty5 : TyI := ⟨.int .u8, 1, 1, [.int .u8 0], some ⟨_, (.int .u8)⟩, true⟩
theorem tyOk5 : TyOk Tryd.prog 5 ty5 := tyOk_of (by kernel_rfl) Tryd.underlying5 rfl (by decide) rfl (fun _ _ h => by cases h; rfl) (fun _ => by kernel_rfl)
def ty4 : TyI := ⟨.bool, 1, 1, [.bool false], some ⟨_, .bool⟩, true⟩
theorem tyOk4 : TyOk Tryd.prog 4 ty4 := tyOk_of (by kernel_rfl) Tryd.underlying4 rfl (by decide) rfl (fun _ _ h => by cases h; rfl) (fun _ => by kernel_rfl)
def ty42 : TyI := ⟨.slice 57, 1, 24, [.slice none 0 0], some ⟨_, (.sl (.st .str .str))⟩, false⟩
theorem tyOk42 : TyOk Tryd.prog 42 ty42 := tyOk_of (by kernel_rfl) Tryd.underlying42 rfl (by decide) rfl (fun _ _ h => by cases h; rfl) (fun h => by cases h)
def ty46 : TyI := ⟨.struct [(0, 4), (1, 9), (2, 3), (3, 9)], 4, 48, [.bool false, .string ⟨#[]⟩, .int .i64 0, .string ⟨#[]⟩], some ⟨_, (.st .bool (.st .str (.st (.int .i64) .str)))⟩, true⟩
theorem tyOk46 : TyOk Tryd.prog 46 ty46 := tyOk_of (by kernel_rfl) ⟨by kernel_rfl, by kernel_rfl, by kernel_rfl, by kernel_rfl, by kernel_rfl⟩ rfl (by decide) rfl (fun _ _ h => by cases h; rfl) (fun _ => by kernel_rfl)
def ty29 : TyI := ⟨.iface, 1, 16, [.nilIface], some ⟨_, .raw⟩, false⟩
theorem tyOk29 : TyOk Tryd.prog 29 ty29 := tyOk_of (by kernel_rfl) ⟨_, Tryd.underlying29⟩ rfl (by decide) rfl (fun _ _ h => by cases h; rfl) (fun h => by cases h)
def ty78 : TyI := ⟨.slice 62, 1, 24, [.slice none 0 0], some ⟨_, (.sl (.sl .str))⟩, false⟩
theorem tyOk78 : TyOk Tryd.prog 78 ty78 := tyOk_of (by kernel_rfl) Tryd.underlying78 rfl (by decide) rfl (fun _ _ h => by cases h; rfl) (fun h => by cases h)
def ty49 : TyI := ⟨.struct [(0, 4), (1, 9), (2, 3), (3, 9)], 4, 48, [.bool false, .string ⟨#[]⟩, .int .i64 0, .string ⟨#[]⟩], some ⟨_, (.st .bool (.st .str (.st (.int .i64) .str)))⟩, true⟩
theorem tyOk49 : TyOk Tryd.prog 49 ty49 := tyOk_of (by kernel_rfl) ⟨by kernel_rfl, by kernel_rfl, by kernel_rfl, by kernel_rfl, by kernel_rfl⟩ rfl (by decide) rfl (fun _ _ h => by cases h; rfl) (fun _ => by kernel_rfl)
def ty26 : TyI := ⟨.slice 44, 1, 24, [.slice none 0 0], some ⟨_, (.sl (.sl (.st .bool (.st .str (.st (.int .i64) .str)))))⟩, false⟩
theorem tyOk26 : TyOk Tryd.prog 26 ty26 := tyOk_of (by kernel_rfl) Tryd.underlying26 rfl (by decide) rfl (fun _ _ h => by cases h; rfl) (fun h => by cases h)
def ty21 : TyI := ⟨.int .i32, 1, 4, [.int .i32 0], some ⟨_, (.int .i32)⟩, true⟩
theorem tyOk21 : TyOk Tryd.prog 21 ty21 := tyOk_of (by kernel_rfl) Tryd.underlying21 rfl (by decide) rfl (fun _ _ h => by cases h; rfl) (fun _ => by kernel_rfl)
def ty118 : TyI := ⟨.struct [(0, 115), (1, 116)], 2, 32, [.pointer none, .slice none 0 0], none, false⟩
theorem tyOk118 : TyOk Tryd.prog 118 ty118 := tyOk_of (by kernel_rfl) ⟨by kernel_rfl, by kernel_rfl, by kernel_rfl, by kernel_rfl, by kernel_rfl⟩ rfl (by decide) rfl (fun _ _ h => by cases h) (fun h => by cases h)
def ty22 : TyI := ⟨.slice 100, 1, 24, [.slice none 0 0], some ⟨_, (.sl (.sl (.st .bool (.st .str (.st (.int .i64) .str)))))⟩, false⟩
theorem tyOk22 : TyOk Tryd.prog 22 ty22 := tyOk_of (by kernel_rfl) Tryd.underlying22 rfl (by decide) rfl (fun _ _ h => by cases h; rfl) (fun h => by cases h)
def ty100 : TyI := ⟨.slice 49, 1, 24, [.slice none 0 0], some ⟨_, (.sl (.st .bool (.st .str (.st (.int .i64) .str))))⟩, false⟩
theorem tyOk100 : TyOk Tryd.prog 100 ty100 := tyOk_of (by kernel_rfl) Tryd.underlying100 rfl (by decide) rfl (fun _ _ h => by cases h; rfl) (fun h => by cases h)
def ty44 : TyI := ⟨.slice 46, 1, 24, [.slice none 0 0], some ⟨_, (.sl (.st .bool (.st .str (.st (.int .i64) .str))))⟩, false⟩
theorem tyOk44 : TyOk Tryd.prog 44 ty44 := tyOk_of (by kernel_rfl) Tryd.underlying44 rfl (by decide) rfl (fun _ _ h => by cases h; rfl) (fun h => by cases h)
def ty143 : TyI := ⟨.struct [(0, 141), (3, 94), (4, 62), (5, 42), (6, 3)], 7, 120, [.slice none 0 0, .int .i64 0, .bool false, .slice none 0 0, .slice none 0 0, .slice none 0 0, .int .i64 0], some ⟨_, (.st (.st (.sl .str) (.st (.int .i64) .bool)) (.st (.sl (.st (.int .i64) (.st .str (.sl (.st .str .str))))) (.st (.sl .str) (.st (.sl (.st .str .str)) (.int .i64)))))⟩, false⟩
theorem tyOk143 : TyOk Tryd.prog 143 ty143 := tyOk_of (by kernel_rfl) ⟨by kernel_rfl, by kernel_rfl, by kernel_rfl, by kernel_rfl, by kernel_rfl⟩ rfl (by decide) rfl (fun _ _ h => by cases h; rfl) (fun h => by cases h)
def ty148 : TyI := ⟨.struct [(0, 3), (1, 3), (2, 9), (3, 4)], 4, 40, [.int .i64 0, .int .i64 0, .string ⟨#[]⟩, .bool false], some ⟨_, (.st (.int .i64) (.st (.int .i64) (.st .str .bool)))⟩, true⟩
theorem tyOk148 : TyOk Tryd.prog 148 ty148 := tyOk_of (by kernel_rfl) ⟨by kernel_rfl, by kernel_rfl, by kernel_rfl, by kernel_rfl, by kernel_rfl⟩ rfl (by decide) rfl (fun _ _ h => by cases h; rfl) (fun _ => by kernel_rfl)
def ty35 : TyI := ⟨.int .i64, 1, 8, [.int .i64 0], some ⟨_, (.int .i64)⟩, true⟩
theorem tyOk35 : TyOk Tryd.prog 35 ty35 := tyOk_of (by kernel_rfl) Tryd.underlying35 rfl (by decide) rfl (fun _ _ h => by cases h; rfl) (fun _ => by kernel_rfl)
def ty94 : TyI := ⟨.slice 98, 1, 24, [.slice none 0 0], some ⟨_, (.sl (.st (.int .i64) (.st .str (.sl (.st .str .str)))))⟩, false⟩
theorem tyOk94 : TyOk Tryd.prog 94 ty94 := tyOk_of (by kernel_rfl) Tryd.underlying94 rfl (by decide) rfl (fun _ _ h => by cases h; rfl) (fun h => by cases h)
def ty116 : TyI := ⟨.slice 5, 1, 24, [.slice none 0 0], some ⟨_, (.sl (.int .u8))⟩, false⟩
theorem tyOk116 : TyOk Tryd.prog 116 ty116 := tyOk_of (by kernel_rfl) Tryd.underlying116 rfl (by decide) rfl (fun _ _ h => by cases h; rfl) (fun h => by cases h)
def ty191 : TyI := ⟨.int .u32, 1, 4, [.int .u32 0], some ⟨_, (.int .u32)⟩, true⟩
theorem tyOk191 : TyOk Tryd.prog 191 ty191 := tyOk_of (by kernel_rfl) Tryd.underlying191 rfl (by decide) rfl (fun _ _ h => by cases h; rfl) (fun _ => by kernel_rfl)
def ty85 : TyI := ⟨.slice 42, 1, 24, [.slice none 0 0], some ⟨_, (.sl (.sl (.st .str .str)))⟩, false⟩
theorem tyOk85 : TyOk Tryd.prog 85 ty85 := tyOk_of (by kernel_rfl) Tryd.underlying85 rfl (by decide) rfl (fun _ _ h => by cases h; rfl) (fun h => by cases h)
def ty139 : TyI := ⟨.ptr 143, 1, 8, [.pointer none], none, false⟩
theorem tyOk139 : TyOk Tryd.prog 139 ty139 := tyOk_of (by kernel_rfl) Tryd.underlying139 rfl (by decide) rfl (fun _ _ h => by cases h) (fun h => by cases h)
def ty115 : TyI := ⟨.ptr 118, 1, 8, [.pointer none], none, false⟩
theorem tyOk115 : TyOk Tryd.prog 115 ty115 := tyOk_of (by kernel_rfl) Tryd.underlying115 rfl (by decide) rfl (fun _ _ h => by cases h) (fun h => by cases h)
def ty141 : TyI := ⟨.struct [(0, 62), (1, 3), (2, 4)], 3, 40, [.slice none 0 0, .int .i64 0, .bool false], some ⟨_, (.st (.sl .str) (.st (.int .i64) .bool))⟩, false⟩
theorem tyOk141 : TyOk Tryd.prog 141 ty141 := tyOk_of (by kernel_rfl) ⟨by kernel_rfl, by kernel_rfl, by kernel_rfl, by kernel_rfl, by kernel_rfl⟩ rfl (by decide) rfl (fun _ _ h => by cases h; rfl) (fun h => by cases h)
def ty196 : TyI := ⟨.struct [(0, 5), (1, 5)], 2, 2, [.int .u8 0, .int .u8 0], some ⟨_, (.st (.int .u8) (.int .u8))⟩, true⟩
theorem tyOk196 : TyOk Tryd.prog 196 ty196 := tyOk_of (by kernel_rfl) ⟨by kernel_rfl, by kernel_rfl, by kernel_rfl, by kernel_rfl, by kernel_rfl⟩ rfl (by decide) rfl (fun _ _ h => by cases h; rfl) (fun _ => by kernel_rfl)
def ty98 : TyI := ⟨.struct [(0, 3), (1, 9), (2, 42)], 3, 48, [.int .i64 0, .string ⟨#[]⟩, .slice none 0 0], some ⟨_, (.st (.int .i64) (.st .str (.sl (.st .str .str))))⟩, false⟩
theorem tyOk98 : TyOk Tryd.prog 98 ty98 := tyOk_of (by kernel_rfl) ⟨by kernel_rfl, by kernel_rfl, by kernel_rfl, by kernel_rfl, by kernel_rfl⟩ rfl (by decide) rfl (fun _ _ h => by cases h; rfl) (fun h => by cases h)
def ty126 : TyI := ⟨.struct [(0, 3), (1, 29)], 2, 24, [.int .i64 0, .nilIface], some ⟨_, (.st (.int .i64) .raw)⟩, false⟩
theorem tyOk126 : TyOk Tryd.prog 126 ty126 := tyOk_of (by kernel_rfl) ⟨by kernel_rfl, by kernel_rfl, by kernel_rfl, by kernel_rfl, by kernel_rfl⟩ rfl (by decide) rfl (fun _ _ h => by cases h; rfl) (fun h => by cases h)
def ty93 : TyI := ⟨.int .u64, 1, 8, [.int .u64 0], some ⟨_, (.int .u64)⟩, true⟩
theorem tyOk93 : TyOk Tryd.prog 93 ty93 := tyOk_of (by kernel_rfl) Tryd.underlying93 rfl (by decide) rfl (fun _ _ h => by cases h; rfl) (fun _ => by kernel_rfl)
def ty104 : TyI := ⟨.other, 1, 8, [.nilFunc], none, false⟩
theorem tyOk104 : TyOk Tryd.prog 104 ty104 := tyOk_of (by kernel_rfl) ⟨_, Tryd.underlying104, trivial⟩ rfl (by decide) rfl (fun _ _ h => by cases h) (fun h => by cases h)
def ty123 : TyI := ⟨.ptr 126, 1, 8, [.pointer none], none, false⟩
theorem tyOk123 : TyOk Tryd.prog 123 ty123 := tyOk_of (by kernel_rfl) Tryd.underlying123 rfl (by decide) rfl (fun _ _ h => by cases h) (fun h => by cases h)
def ty168 : TyI := ⟨.ptr 164, 1, 8, [.pointer none], none, false⟩
theorem tyOk168 : TyOk Tryd.prog 168 ty168 := tyOk_of (by kernel_rfl) Tryd.underlying168 rfl (by decide) rfl (fun _ _ h => by cases h) (fun h => by cases h)
def ty68 : TyI := ⟨.other, 1, 8, [.nilFunc], none, false⟩
theorem tyOk68 : TyOk Tryd.prog 68 ty68 := tyOk_of (by kernel_rfl) ⟨_, Tryd.underlying68, trivial⟩ rfl (by decide) rfl (fun _ _ h => by cases h) (fun h => by cases h)
def ty114 : TyI := ⟨.other, 1, 8, [.nilFunc], none, false⟩
theorem tyOk114 : TyOk Tryd.prog 114 ty114 := tyOk_of (by kernel_rfl) ⟨_, Tryd.underlying114, trivial⟩ rfl (by decide) rfl (fun _ _ h => by cases h) (fun h => by cases h)
def ty77 : TyI := ⟨.other, 1, 8, [.nilFunc], none, false⟩
theorem tyOk77 : TyOk Tryd.prog 77 ty77 := tyOk_of (by kernel_rfl) ⟨_, Tryd.underlying77, trivial⟩ rfl (by decide) rfl (fun _ _ h => by cases h) (fun h => by cases h)
def ty41 : TyI := ⟨.other, 1, 8, [.nilFunc], none, false⟩
theorem tyOk41 : TyOk Tryd.prog 41 ty41 := tyOk_of (by kernel_rfl) ⟨_, Tryd.underlying41, trivial⟩ rfl (by decide) rfl (fun _ _ h => by cases h) (fun h => by cases h)
def ty161 : TyI := ⟨.ptr 5, 1, 8, [.pointer none], none, false⟩
theorem tyOk161 : TyOk Tryd.prog 161 ty161 := tyOk_of (by kernel_rfl) Tryd.underlying161 rfl (by decide) rfl (fun _ _ h => by cases h) (fun h => by cases h)
def ty127 : TyI := ⟨.other, 1, 8, [.nilFunc], none, false⟩
theorem tyOk127 : TyOk Tryd.prog 127 ty127 := tyOk_of (by kernel_rfl) ⟨_, Tryd.underlying127, trivial⟩ rfl (by decide) rfl (fun _ _ h => by cases h) (fun h => by cases h)

def te : List (TypeId × TyI) := [(9, ty9), (3, ty3), (62, ty62), (57, ty57), (5, ty5), (4, ty4), (42, ty42), (46, ty46), (29, ty29), (78, ty78), (49, ty49), (26, ty26), (21, ty21), (118, ty118), (22, ty22), (100, ty100), (44, ty44), (143, ty143), (148, ty148), (35, ty35), (94, ty94), (116, ty116), (191, ty191), (85, ty85), (139, ty139), (115, ty115), (141, ty141), (196, ty196), (98, ty98), (126, ty126), (93, ty93), (104, ty104), (123, ty123), (168, ty168), (68, ty68), (114, ty114), (77, ty77), (41, ty41), (161, ty161), (127, ty127)]
theorem teOk : TEok Tryd.prog te := by
  intro p hp
  simp only [te, List.mem_cons, List.not_mem_nil, or_false] at hp
  rcases hp with rfl | rfl | rfl | rfl | rfl | rfl | rfl | rfl | rfl | rfl | rfl | rfl | rfl | rfl | rfl | rfl | rfl | rfl | rfl | rfl | rfl | rfl | rfl | rfl | rfl | rfl | rfl | rfl | rfl | rfl | rfl | rfl | rfl | rfl | rfl | rfl | rfl | rfl | rfl | rfl
  · exact tyOk9
  · exact tyOk3
  · exact tyOk62
  · exact tyOk57
  · exact tyOk5
  · exact tyOk4
  · exact tyOk42
  · exact tyOk46
  · exact tyOk29
  · exact tyOk78
  · exact tyOk49
  · exact tyOk26
  · exact tyOk21
  · exact tyOk118
  · exact tyOk22
  · exact tyOk100
  · exact tyOk44
  · exact tyOk143
  · exact tyOk148
  · exact tyOk35
  · exact tyOk94
  · exact tyOk116
  · exact tyOk191
  · exact tyOk85
  · exact tyOk139
  · exact tyOk115
  · exact tyOk141
  · exact tyOk196
  · exact tyOk98
  · exact tyOk126
  · exact tyOk93
  · exact tyOk104
  · exact tyOk123
  · exact tyOk168
  · exact tyOk68
  · exact tyOk114
  · exact tyOk77
  · exact tyOk41
  · exact tyOk161
  · exact tyOk127

end Ab
end Go.Proofs.YthlfbpmbkcoclaaDoor
