/- Nothing is claimed here: the table of this program's types. -/
import Derived.Test.YteppnjgobaggaaaAmY
import Derived.Test.YteppnjgobaggaaaProg
namespace Go.Proofs.Yteppnjgobaggaaa
set_option linter.unusedSimpArgs false
set_option linter.unusedVariables false
set_option linter.unnecessarySimpa false
set_option linter.unusedSectionVars false
set_option maxRecDepth 100000
open Go Go.RowKit Go.Am

def tbl : List (Nat × TI) := [(2, ⟨false, 1, 8, [(.int .i64 0)], [], false, none, 0, some .i64⟩),
  (3, ⟨false, 1, 8, [(.int .i64 0)], [], false, none, 0, some .i64⟩),
  (4, ⟨false, 1, 1, [(.bool false)], [], false, none, 0, none⟩),
  (5, ⟨false, 1, 1, [(.int .u8 0)], [], false, none, 0, some .u8⟩),
  (6, ⟨false, 1, 1, [(.int .u8 0)], [], false, none, 0, some .u8⟩),
  (7, ⟨true, 4, 24, [(.int .i64 0), (.int .i64 0), (.bool false), (.int .u8 0)], [(0, 2), (1, 3), (2, 4), (3, 6)], false, none, 0, none⟩),
  (8, ⟨true, 4, 24, [(.int .i64 0), (.int .i64 0), (.bool false), (.int .u8 0)], [(0, 2), (1, 3), (2, 4), (3, 6)], false, none, 0, none⟩),
  (9, ⟨false, 1, 16, [(.string ⟨#[]⟩)], [], false, none, 0, none⟩),
  (10, ⟨false, 1, 16, [(.string ⟨#[]⟩)], [], false, none, 0, none⟩),
  (11, ⟨false, 1, 16, [(.string ⟨#[]⟩)], [], false, none, 0, none⟩),
  (12, ⟨false, 1, 8, [(.int .u64 0)], [], false, none, 0, some .u64⟩),
  (13, ⟨true, 2, 24, [(.string ⟨#[]⟩), (.int .u64 0)], [(0, 9), (1, 12)], false, none, 0, none⟩),
  (14, ⟨true, 2, 24, [(.string ⟨#[]⟩), (.int .u64 0)], [(0, 9), (1, 12)], false, none, 0, none⟩),
  (15, ⟨false, 1, 8, [(.pointer none)], [], false, none, 0, none⟩),
  (16, ⟨false, 1, 8, [(.pointer none)], [], false, none, 0, none⟩),
  (17, ⟨false, 1, 8, [(.pointer none)], [], false, none, 0, none⟩),
  (18, ⟨true, 1, 8, [(.pointer none)], [(0, 17)], false, none, 0, none⟩),
  (19, ⟨true, 1, 8, [(.pointer none)], [(0, 17)], false, none, 0, none⟩),
  (21, ⟨false, 1, 4, [(.int .i32 0)], [], false, none, 0, some .i32⟩),
  (22, ⟨false, 1, 24, [(.slice none 0 0)], [], true, some 3, 0, none⟩),
  (23, ⟨false, 1, 8, [(.pointer none)], [], false, none, 0, none⟩),
  (25, ⟨false, 1, 24, [(.slice none 0 0)], [], true, some 34, 0, none⟩),
  (26, ⟨false, 1, 24, [(.slice none 0 0)], [], true, some 46, 0, none⟩),
  (27, ⟨false, 1, 24, [(.slice none 0 0)], [], true, some 96, 0, none⟩),
  (28, ⟨false, 1, 8, [(.int .u64 0)], [], false, none, 0, some .u64⟩),
  (29, ⟨true, 7, 104, [(.int .i64 0), (.slice none 0 0), (.slice none 0 0), (.slice none 0 0), (.int .i64 0), (.int .i64 0), (.int .u64 0)], [(0, 3), (1, 25), (2, 26), (3, 27), (4, 3), (5, 3), (6, 28)], false, none, 0, none⟩),
  (30, ⟨true, 7, 104, [(.int .i64 0), (.slice none 0 0), (.slice none 0 0), (.slice none 0 0), (.int .i64 0), (.int .i64 0), (.int .u64 0)], [(0, 3), (1, 25), (2, 26), (3, 27), (4, 3), (5, 3), (6, 28)], false, none, 0, none⟩),
  (33, ⟨true, 3, 24, [(.int .i64 0), (.int .i64 0), (.int .i64 0)], [(0, 3), (1, 3), (2, 3)], false, none, 0, none⟩),
  (34, ⟨true, 3, 24, [(.int .i64 0), (.int .i64 0), (.int .i64 0)], [(0, 3), (1, 3), (2, 3)], false, none, 0, none⟩),
  (37, ⟨false, 1, 8, [(.int .i64 0)], [], false, none, 0, some .i64⟩),
  (43, ⟨true, 2, 24, [(.string ⟨#[]⟩), (.int .i64 0)], [(0, 9), (1, 3)], false, none, 0, none⟩),
  (44, ⟨true, 2, 24, [(.string ⟨#[]⟩), (.int .i64 0)], [(0, 9), (1, 3)], false, none, 0, none⟩),
  (45, ⟨true, 5, 48, [(.int .i64 0), (.string ⟨#[]⟩), (.int .i64 0), (.int .i64 0), (.int .i64 0)], [(0, 3), (1, 44), (3, 3), (4, 3)], false, none, 0, none⟩),
  (46, ⟨true, 5, 48, [(.int .i64 0), (.string ⟨#[]⟩), (.int .i64 0), (.int .i64 0), (.int .i64 0)], [(0, 3), (1, 44), (3, 3), (4, 3)], false, none, 0, none⟩),
  (50, ⟨false, 1, 2, [(.int .u16 0)], [], false, none, 0, some .u16⟩),
  (59, ⟨false, 1, 24, [(.slice none 0 0)], [], true, some 44, 0, none⟩),
  (63, ⟨true, 3, 72, [(.slice none 0 0), (.slice none 0 0), (.slice none 0 0)], [], false, some 25, 3, none⟩),
  (65, ⟨true, 3, 24, [(.int .i64 0), (.int .i64 0), (.int .i64 0)], [], false, some 3, 3, none⟩),
  (72, ⟨true, 21, 312, [(.int .i64 0), (.slice none 0 0), (.slice none 0 0), (.slice none 0 0), (.int .i64 0), (.int .i64 0), (.int .u64 0), (.int .i64 0), (.slice none 0 0), (.slice none 0 0), (.slice none 0 0), (.int .i64 0), (.int .i64 0), (.int .u64 0), (.int .i64 0), (.slice none 0 0), (.slice none 0 0), (.slice none 0 0), (.int .i64 0), (.int .i64 0), (.int .u64 0)], [], false, some 30, 3, none⟩),
  (73, ⟨true, 6, 72, [(.string ⟨#[]⟩), (.int .i64 0), (.string ⟨#[]⟩), (.int .i64 0), (.string ⟨#[]⟩), (.int .i64 0)], [], false, some 44, 3, none⟩),
  (74, ⟨true, 2, 16, [(.int .i64 0), (.int .i64 0)], [], false, some 3, 2, none⟩),
  (77, ⟨true, 2, 32, [(.slice none 0 0), (.int .i64 0)], [(0, 22), (1, 3)], false, none, 0, none⟩),
  (78, ⟨true, 2, 32, [(.slice none 0 0), (.int .i64 0)], [(0, 22), (1, 3)], false, none, 0, none⟩),
  (80, ⟨true, 4, 48, [(.string ⟨#[]⟩), (.int .i64 0), (.string ⟨#[]⟩), (.int .i64 0)], [], false, some 44, 2, none⟩),
  (85, ⟨false, 1, 8, [(.pointer none)], [], false, none, 0, none⟩),
  (87, ⟨true, 2, 16, [(.int .i64 0), (.int .i64 0)], [(0, 3), (1, 3)], false, none, 0, none⟩),
  (88, ⟨true, 2, 16, [(.int .i64 0), (.int .i64 0)], [(0, 3), (1, 3)], false, none, 0, none⟩),
  (95, ⟨true, 9, 88, [(.int .i64 0), (.int .i64 0), (.string ⟨#[]⟩), (.int .i64 0), (.string ⟨#[]⟩), (.int .i64 0), (.int .i64 0), (.int .i64 0), (.int .i64 0)], [(0, 3), (1, 3), (2, 44), (4, 44), (6, 3), (7, 3), (8, 3)], false, none, 0, none⟩),
  (96, ⟨true, 9, 88, [(.int .i64 0), (.int .i64 0), (.string ⟨#[]⟩), (.int .i64 0), (.string ⟨#[]⟩), (.int .i64 0), (.int .i64 0), (.int .i64 0), (.int .i64 0)], [(0, 3), (1, 3), (2, 44), (4, 44), (6, 3), (7, 3), (8, 3)], false, none, 0, none⟩),
  (98, ⟨true, 3, 32, [(.int .i64 0), (.string ⟨#[]⟩), (.int .i64 0)], [(0, 3), (1, 44)], false, none, 0, none⟩),
  (99, ⟨true, 3, 32, [(.int .i64 0), (.string ⟨#[]⟩), (.int .i64 0)], [(0, 3), (1, 44)], false, none, 0, none⟩),
  (114, ⟨false, 1, 8, [(.pointer none)], [], false, none, 0, none⟩),
  (125, ⟨false, 1, 8, [(.int .u64 0)], [], false, none, 0, some .u64⟩),
  (136, ⟨true, 4, 40, [(.pointer none), (.pointer none), (.pointer none), (.string ⟨#[]⟩)], [(0, 17), (1, 17), (2, 17), (3, 9)], false, none, 0, none⟩),
  (137, ⟨true, 4, 40, [(.pointer none), (.pointer none), (.pointer none), (.string ⟨#[]⟩)], [(0, 17), (1, 17), (2, 17), (3, 9)], false, none, 0, none⟩),
  (141, ⟨false, 1, 4, [(.int .u32 0)], [], false, none, 0, some .u32⟩),
  (142, ⟨false, 1, 1, [(.int .u8 0)], [], false, none, 0, some .u8⟩),
  (143, ⟨false, 1, 1, [(.int .u8 0)], [], false, none, 0, some .u8⟩),
  (145, ⟨false, 1, 8, [(.pointer none)], [], false, none, 0, none⟩),
  (146, ⟨false, 1, 4, [(.int .i32 0)], [], false, none, 0, some .i32⟩),
  (147, ⟨false, 1, 4, [(.int .i32 0)], [], false, none, 0, some .i32⟩),
  (148, ⟨true, 11, 48, [(.int .u64 0), (.int .u64 0), (.int .u32 0), (.int .u8 0), (.int .u8 0), (.int .u8 0), (.int .u8 0), .nilFunc, (.pointer none), (.int .i32 0), (.int .i32 0)], [(0, 12), (1, 12), (2, 141), (3, 142), (4, 5), (5, 5), (6, 143), (7, 144), (8, 145), (9, 146), (10, 147)], false, none, 0, none⟩),
  (149, ⟨true, 11, 48, [(.int .u64 0), (.int .u64 0), (.int .u32 0), (.int .u8 0), (.int .u8 0), (.int .u8 0), (.int .u8 0), .nilFunc, (.pointer none), (.int .i32 0), (.int .i32 0)], [(0, 12), (1, 12), (2, 141), (3, 142), (4, 5), (5, 5), (6, 143), (7, 144), (8, 145), (9, 146), (10, 147)], false, none, 0, none⟩)]
theorem htb : TOK Try.prog tbl := TOK_of (by kernel_rfl)
theorem hmix : Try.prog.follows .mixedOrders = true := by kernel_rfl
end Go.Proofs.Yteppnjgobaggaaa
