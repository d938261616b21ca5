import Derived.Test.YtnifcbofkodjeaaWaAbQ
import Derived.Test.YtnifcbofkodjeaaProg
set_option maxRecDepth 100000
namespace Go.Ab
open Go.Proofs
abbrev y23 : Ty := (.pair (.int .i64) (.pair (.int .i64) (.sl (.pair (.int .i64) (.pair (.int .i64) (.pair (.int .i64) (.pair (.int .i64) (.int .i64))))))))
abbrev y27 : Ty := (.pair (.sl (.pair .str .str)) (.sl (.pair (.int .i64) (.pair (.int .i64) (.pair (.int .i64) (.pair .str (.sl (.pair .str .str))))))))
abbrev y31 : Ty := (.pair y23 (.pair y27 (.pair (.sl (.int .i64)) (.sl (.pair (.int .i64) .str)))))
abbrev y34 : Ty := (.pair .str (.sl (.pair (.int .i64) .str)))
abbrev y66 : Ty := (.pair (.int .i64) (.pair (.int .i64) (.pair (.int .i64) (.pair (.int .i64) (.int .i64)))))
abbrev y135 : Ty := (.pair (.int .u8) (.pair (.int .u8) (.pair (.int .u8) (.pair (.int .u8) (.pair (.int .u8) (.pair (.int .u8) (.pair (.int .u8) (.int .u8))))))))
abbrev y207 : Ty := (.pair (.int .i64) (.pair (.int .i64) (.pair (.int .i64) (.pair .str (.sl (.pair .str .str))))))
def types_ : List (Nat × TI) := [
  (2, ⟨.one, 1, 8, (.int .i64), [.v (.int .i64) (0 : Int)]⟩),
  (3, ⟨.one, 1, 8, (.int .i64), [.v (.int .i64) (0 : Int)]⟩),
  (4, ⟨.one, 1, 1, .bool, [.v .bool false]⟩),
  (5, ⟨.one, 1, 1, (.int .u8), [.v (.int .u8) (0 : Int)]⟩),
  (6, ⟨.one, 1, 1, (.int .u8), [.v (.int .u8) (0 : Int)]⟩),
  (9, ⟨.one, 1, 16, .str, [.v .str []]⟩),
  (12, ⟨.one, 1, 8, (.int .u64), [.v (.int .u64) (0 : Int)]⟩),
  (21, ⟨.one, 1, 4, (.int .i32), [.v (.int .i32) (0 : Int)]⟩),
  (22, ⟨.slice 67, 1, 24, (.sl (.pair (.int .i64) (.pair (.int .i64) (.pair (.int .i64) (.pair (.int .i64) (.int .i64)))))), [.nil]⟩),
  (23, ⟨.struct [(0, 3), (1, 3), (2, 22)], 3, 40, (.pair (.int .i64) (.pair (.int .i64) (.sl (.pair (.int .i64) (.pair (.int .i64) (.pair (.int .i64) (.pair (.int .i64) (.int .i64)))))))), [.v (.int .i64) (0 : Int), .v (.int .i64) (0 : Int), .nil]⟩),
  (24, ⟨.struct [(0, 3), (1, 3), (2, 22)], 3, 40, (.pair (.int .i64) (.pair (.int .i64) (.sl (.pair (.int .i64) (.pair (.int .i64) (.pair (.int .i64) (.pair (.int .i64) (.int .i64)))))))), [.v (.int .i64) (0 : Int), .v (.int .i64) (0 : Int), .nil]⟩),
  (25, ⟨.slice 206, 1, 24, (.sl (.pair .str .str)), [.nil]⟩),
  (26, ⟨.slice 208, 1, 24, (.sl (.pair (.int .i64) (.pair (.int .i64) (.pair (.int .i64) (.pair .str (.sl (.pair .str .str))))))), [.nil]⟩),
  (27, ⟨.struct [(0, 25), (1, 26)], 2, 48, (.pair (.sl (.pair .str .str)) (.sl (.pair (.int .i64) (.pair (.int .i64) (.pair (.int .i64) (.pair .str (.sl (.pair .str .str)))))))), [.nil, .nil]⟩),
  (28, ⟨.struct [(0, 25), (1, 26)], 2, 48, (.pair (.sl (.pair .str .str)) (.sl (.pair (.int .i64) (.pair (.int .i64) (.pair (.int .i64) (.pair .str (.sl (.pair .str .str)))))))), [.nil, .nil]⟩),
  (29, ⟨.slice 3, 1, 24, (.sl (.int .i64)), [.nil]⟩),
  (30, ⟨.slice 89, 1, 24, (.sl (.pair (.int .i64) .str)), [.nil]⟩),
  (31, ⟨.struct [(0, 24), (3, 28), (5, 29), (6, 30)], 7, 136, (.pair (.pair (.int .i64) (.pair (.int .i64) (.sl (.pair (.int .i64) (.pair (.int .i64) (.pair (.int .i64) (.pair (.int .i64) (.int .i64)))))))) (.pair (.pair (.sl (.pair .str .str)) (.sl (.pair (.int .i64) (.pair (.int .i64) (.pair (.int .i64) (.pair .str (.sl (.pair .str .str)))))))) (.pair (.sl (.int .i64)) (.sl (.pair (.int .i64) .str))))), [.v (.int .i64) (0 : Int), .v (.int .i64) (0 : Int), .nil, .nil, .nil, .nil, .nil]⟩),
  (32, ⟨.struct [(0, 24), (3, 28), (5, 29), (6, 30)], 7, 136, (.pair (.pair (.int .i64) (.pair (.int .i64) (.sl (.pair (.int .i64) (.pair (.int .i64) (.pair (.int .i64) (.pair (.int .i64) (.int .i64)))))))) (.pair (.pair (.sl (.pair .str .str)) (.sl (.pair (.int .i64) (.pair (.int .i64) (.pair (.int .i64) (.pair .str (.sl (.pair .str .str)))))))) (.pair (.sl (.int .i64)) (.sl (.pair (.int .i64) .str))))), [.v (.int .i64) (0 : Int), .v (.int .i64) (0 : Int), .nil, .nil, .nil, .nil, .nil]⟩),
  (33, ⟨.slice 63, 1, 24, (.sl (.pair (.int .i64) .str)), [.nil]⟩),
  (34, ⟨.struct [(0, 9), (1, 33)], 2, 40, (.pair .str (.sl (.pair (.int .i64) .str))), [.v .str [], .nil]⟩),
  (35, ⟨.struct [(0, 9), (1, 33)], 2, 40, (.pair .str (.sl (.pair (.int .i64) .str))), [.v .str [], .nil]⟩),
  (36, ⟨.one, 1, 8, (.int .i64), [.v (.int .i64) (0 : Int)]⟩),
  (37, ⟨.struct [(0, 36), (1, 3)], 2, 16, (.pair (.int .i64) (.int .i64)), [.v (.int .i64) (0 : Int), .v (.int .i64) (0 : Int)]⟩),
  (38, ⟨.struct [(0, 36), (1, 3)], 2, 16, (.pair (.int .i64) (.int .i64)), [.v (.int .i64) (0 : Int), .v (.int .i64) (0 : Int)]⟩),
  (62, ⟨.struct [(0, 3), (1, 9)], 2, 24, (.pair (.int .i64) .str), [.v (.int .i64) (0 : Int), .v .str []]⟩),
  (63, ⟨.struct [(0, 3), (1, 9)], 2, 24, (.pair (.int .i64) .str), [.v (.int .i64) (0 : Int), .v .str []]⟩),
  (66, ⟨.struct [(0, 3), (1, 3), (2, 3), (3, 3), (4, 3)], 5, 40, (.pair (.int .i64) (.pair (.int .i64) (.pair (.int .i64) (.pair (.int .i64) (.int .i64))))), [.v (.int .i64) (0 : Int), .v (.int .i64) (0 : Int), .v (.int .i64) (0 : Int), .v (.int .i64) (0 : Int), .v (.int .i64) (0 : Int)]⟩),
  (67, ⟨.struct [(0, 3), (1, 3), (2, 3), (3, 3), (4, 3)], 5, 40, (.pair (.int .i64) (.pair (.int .i64) (.pair (.int .i64) (.pair (.int .i64) (.int .i64))))), [.v (.int .i64) (0 : Int), .v (.int .i64) (0 : Int), .v (.int .i64) (0 : Int), .v (.int .i64) (0 : Int), .v (.int .i64) (0 : Int)]⟩),
  (72, ⟨.one, 1, 8, (.int .u64), [.v (.int .u64) (0 : Int)]⟩),
  (73, ⟨.struct [(0, 72), (1, 72)], 2, 16, (.pair (.int .u64) (.int .u64)), [.v (.int .u64) (0 : Int), .v (.int .u64) (0 : Int)]⟩),
  (74, ⟨.struct [(0, 72), (1, 72)], 2, 16, (.pair (.int .u64) (.int .u64)), [.v (.int .u64) (0 : Int), .v (.int .u64) (0 : Int)]⟩),
  (88, ⟨.struct [(0, 36), (1, 9)], 2, 24, (.pair (.int .i64) .str), [.v (.int .i64) (0 : Int), .v .str []]⟩),
  (89, ⟨.struct [(0, 36), (1, 9)], 2, 24, (.pair (.int .i64) .str), [.v (.int .i64) (0 : Int), .v .str []]⟩),
  (98, ⟨.slice 36, 1, 24, (.sl (.int .i64)), [.nil]⟩),
  (108, ⟨.slice 5, 1, 24, (.sl (.int .u8)), [.nil]⟩),
  (110, ⟨.bld, 2, 32, (.pair (.nul false) (.sl (.int .u8))), [.v (.nul false) (), .nil]⟩),
  (135, ⟨.array 8 5, 8, 8, (.pair (.int .u8) (.pair (.int .u8) (.pair (.int .u8) (.pair (.int .u8) (.pair (.int .u8) (.pair (.int .u8) (.pair (.int .u8) (.int .u8)))))))), [.v (.int .u8) (0 : Int), .v (.int .u8) (0 : Int), .v (.int .u8) (0 : Int), .v (.int .u8) (0 : Int), .v (.int .u8) (0 : Int), .v (.int .u8) (0 : Int), .v (.int .u8) (0 : Int), .v (.int .u8) (0 : Int)]⟩),
  (147, ⟨.slice 29, 1, 24, (.sl (.sl (.int .i64))), [.nil]⟩),
  (157, ⟨.slice 183, 1, 24, (.sl (.pair (.int .i64) .str)), [.nil]⟩),
  (162, ⟨.one, 1, 8, (.int .u64), [.v (.int .u64) (0 : Int)]⟩),
  (182, ⟨.struct [(0, 3), (1, 9)], 2, 24, (.pair (.int .i64) .str), [.v (.int .i64) (0 : Int), .v .str []]⟩),
  (183, ⟨.struct [(0, 3), (1, 9)], 2, 24, (.pair (.int .i64) .str), [.v (.int .i64) (0 : Int), .v .str []]⟩),
  (185, ⟨.map 3 4, 1, 8, (.nul true), [.v (.nul true) ()]⟩),
  (197, ⟨.one, 1, 4, (.int .u32), [.v (.int .u32) (0 : Int)]⟩),
  (198, ⟨.one, 1, 1, (.int .u8), [.v (.int .u8) (0 : Int)]⟩),
  (199, ⟨.one, 1, 1, (.int .u8), [.v (.int .u8) (0 : Int)]⟩),
  (201, ⟨.one, 1, 4, (.int .i32), [.v (.int .i32) (0 : Int)]⟩),
  (202, ⟨.one, 1, 4, (.int .i32), [.v (.int .i32) (0 : Int)]⟩),
  (205, ⟨.struct [(0, 9), (1, 9)], 2, 32, (.pair .str .str), [.v .str [], .v .str []]⟩),
  (206, ⟨.struct [(0, 9), (1, 9)], 2, 32, (.pair .str .str), [.v .str [], .v .str []]⟩),
  (207, ⟨.struct [(0, 3), (1, 3), (2, 3), (3, 9), (4, 25)], 5, 64, (.pair (.int .i64) (.pair (.int .i64) (.pair (.int .i64) (.pair .str (.sl (.pair .str .str)))))), [.v (.int .i64) (0 : Int), .v (.int .i64) (0 : Int), .v (.int .i64) (0 : Int), .v .str [], .nil]⟩),
  (208, ⟨.struct [(0, 3), (1, 3), (2, 3), (3, 9), (4, 25)], 5, 64, (.pair (.int .i64) (.pair (.int .i64) (.pair (.int .i64) (.pair .str (.sl (.pair .str .str)))))), [.v (.int .i64) (0 : Int), .v (.int .i64) (0 : Int), .v (.int .i64) (0 : Int), .v .str [], .nil]⟩)]
def types : Nat → Option TI := findL types_
theorem types_all : TypesOK Try.prog types := types_ok (by kernel_rfl)
theorem mixes : Try.prog.follows .mixedOrders = true := by kernel_rfl
end Go.Ab
