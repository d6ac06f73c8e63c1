/- Nothing is claimed here: the table of this program's types. -/
import Derived.Test.YtahjhnijmmnkeaaAmY
import Derived.Test.YtahjhnijmmnkeaaProg
namespace Go.Proofs.Ytahjhnijmmnkeaa
set_option linter.unusedSimpArgs false
set_option linter.unusedVariables false
set_option linter.unnecessarySimpa false
set_option linter.unusedSectionVars false
set_option maxRecDepth 100000
open Go Go.RowKit Go.Am

def tbl : List (Nat × TI) := [(2, ⟨false, 1, 8, [(.int .i64 0)], [], false, none, 0, some .i64⟩),
  (3, ⟨false, 1, 8, [(.int .i64 0)], [], false, none, 0, some .i64⟩),
  (4, ⟨false, 1, 1, [(.bool false)], [], false, none, 0, none⟩),
  (5, ⟨false, 1, 1, [(.int .u8 0)], [], false, none, 0, some .u8⟩),
  (6, ⟨false, 1, 1, [(.int .u8 0)], [], false, none, 0, some .u8⟩),
  (7, ⟨true, 4, 24, [(.int .i64 0), (.int .i64 0), (.bool false), (.int .u8 0)], [(0, 2), (1, 3), (2, 4), (3, 6)], false, none, 0, none⟩),
  (8, ⟨true, 4, 24, [(.int .i64 0), (.int .i64 0), (.bool false), (.int .u8 0)], [(0, 2), (1, 3), (2, 4), (3, 6)], false, none, 0, none⟩),
  (9, ⟨false, 1, 16, [(.string ⟨#[]⟩)], [], false, none, 0, none⟩),
  (10, ⟨false, 1, 16, [(.string ⟨#[]⟩)], [], false, none, 0, none⟩),
  (11, ⟨false, 1, 16, [(.string ⟨#[]⟩)], [], false, none, 0, none⟩),
  (12, ⟨false, 1, 8, [(.int .u64 0)], [], false, none, 0, some .u64⟩),
  (13, ⟨true, 2, 24, [(.string ⟨#[]⟩), (.int .u64 0)], [(0, 9), (1, 12)], false, none, 0, none⟩),
  (14, ⟨true, 2, 24, [(.string ⟨#[]⟩), (.int .u64 0)], [(0, 9), (1, 12)], false, none, 0, none⟩),
  (15, ⟨false, 1, 8, [(.pointer none)], [], false, none, 0, none⟩),
  (16, ⟨false, 1, 8, [(.pointer none)], [], false, none, 0, none⟩),
  (17, ⟨false, 1, 8, [(.pointer none)], [], false, none, 0, none⟩),
  (18, ⟨true, 1, 8, [(.pointer none)], [(0, 17)], false, none, 0, none⟩),
  (19, ⟨true, 1, 8, [(.pointer none)], [(0, 17)], false, none, 0, none⟩),
  (21, ⟨false, 1, 4, [(.int .i32 0)], [], false, none, 0, some .i32⟩),
  (22, ⟨false, 1, 24, [(.slice none 0 0)], [], true, some 3, 0, none⟩),
  (23, ⟨false, 1, 8, [(.pointer none)], [], false, none, 0, none⟩),
  (26, ⟨false, 1, 24, [(.slice none 0 0)], [], true, some 57, 0, none⟩),
  (27, ⟨true, 4, 80, [(.slice none 0 0), (.int .i64 0), (.slice none 0 0), (.slice none 0 0)], [(0, 26), (1, 3), (2, 22), (3, 22)], false, none, 0, none⟩),
  (28, ⟨true, 4, 80, [(.slice none 0 0), (.int .i64 0), (.slice none 0 0), (.slice none 0 0)], [(0, 26), (1, 3), (2, 22), (3, 22)], false, none, 0, none⟩),
  (29, ⟨false, 1, 8, [(.int .i64 0)], [], false, none, 0, some .i64⟩),
  (33, ⟨false, 1, 8, [(.int .u64 0)], [], false, none, 0, some .u64⟩),
  (36, ⟨false, 1, 24, [(.slice none 0 0)], [], true, some 38, 0, none⟩),
  (37, ⟨true, 3, 56, [(.int .i64 0), (.slice none 0 0), (.slice none 0 0)], [(0, 3), (1, 22), (2, 36)], false, none, 0, none⟩),
  (38, ⟨true, 3, 56, [(.int .i64 0), (.slice none 0 0), (.slice none 0 0)], [(0, 3), (1, 22), (2, 36)], false, none, 0, none⟩),
  (39, ⟨false, 1, 24, [(.slice none 0 0)], [], true, some 9, 0, none⟩),
  (40, ⟨true, 7, 120, [(.int .i64 0), (.int .i64 0), (.int .i64 0), (.slice none 0 0), (.slice none 0 0), (.slice none 0 0), (.slice none 0 0)], [(0, 3), (1, 3), (2, 38), (5, 39), (6, 39)], false, none, 0, none⟩),
  (41, ⟨true, 7, 120, [(.int .i64 0), (.int .i64 0), (.int .i64 0), (.slice none 0 0), (.slice none 0 0), (.slice none 0 0), (.slice none 0 0)], [(0, 3), (1, 3), (2, 38), (5, 39), (6, 39)], false, none, 0, none⟩),
  (42, ⟨true, 2, 24, [(.int .i64 0), (.string ⟨#[]⟩)], [(0, 3), (1, 9)], false, none, 0, none⟩),
  (43, ⟨true, 2, 24, [(.int .i64 0), (.string ⟨#[]⟩)], [(0, 3), (1, 9)], false, none, 0, none⟩),
  (44, ⟨true, 15, 176, [(.int .i64 0), (.int .i64 0), (.int .i64 0), (.int .i64 0), (.slice none 0 0), (.slice none 0 0), (.int .i64 0), (.int .i64 0), (.string ⟨#[]⟩), (.int .i64 0), (.string ⟨#[]⟩), (.int .i64 0), (.string ⟨#[]⟩), (.int .i64 0), (.int .i64 0)], [(0, 3), (1, 3), (2, 3), (3, 38), (6, 3), (7, 43), (9, 43), (11, 43), (13, 3), (14, 3)], false, none, 0, none⟩),
  (45, ⟨true, 15, 176, [(.int .i64 0), (.int .i64 0), (.int .i64 0), (.int .i64 0), (.slice none 0 0), (.slice none 0 0), (.int .i64 0), (.int .i64 0), (.string ⟨#[]⟩), (.int .i64 0), (.string ⟨#[]⟩), (.int .i64 0), (.string ⟨#[]⟩), (.int .i64 0), (.int .i64 0)], [(0, 3), (1, 3), (2, 3), (3, 38), (6, 3), (7, 43), (9, 43), (11, 43), (13, 3), (14, 3)], false, none, 0, none⟩),
  (46, ⟨true, 24, 312, [(.int .i64 0), (.int .i64 0), (.int .i64 0), (.int .i64 0), (.int .i64 0), (.slice none 0 0), (.slice none 0 0), (.slice none 0 0), (.slice none 0 0), (.int .i64 0), (.int .i64 0), (.int .i64 0), (.int .i64 0), (.slice none 0 0), (.slice none 0 0), (.int .i64 0), (.int .i64 0), (.string ⟨#[]⟩), (.int .i64 0), (.string ⟨#[]⟩), (.int .i64 0), (.string ⟨#[]⟩), (.int .i64 0), (.int .i64 0)], [(0, 3), (1, 3), (2, 41), (9, 45)], false, none, 0, none⟩),
  (47, ⟨true, 24, 312, [(.int .i64 0), (.int .i64 0), (.int .i64 0), (.int .i64 0), (.int .i64 0), (.slice none 0 0), (.slice none 0 0), (.slice none 0 0), (.slice none 0 0), (.int .i64 0), (.int .i64 0), (.int .i64 0), (.int .i64 0), (.slice none 0 0), (.slice none 0 0), (.int .i64 0), (.int .i64 0), (.string ⟨#[]⟩), (.int .i64 0), (.string ⟨#[]⟩), (.int .i64 0), (.string ⟨#[]⟩), (.int .i64 0), (.int .i64 0)], [(0, 3), (1, 3), (2, 41), (9, 45)], false, none, 0, none⟩),
  (56, ⟨true, 28, 344, [(.int .i64 0), (.int .i64 0), (.int .i64 0), (.int .i64 0), (.int .i64 0), (.int .i64 0), (.int .i64 0), (.int .i64 0), (.int .i64 0), (.slice none 0 0), (.slice none 0 0), (.slice none 0 0), (.slice none 0 0), (.int .i64 0), (.int .i64 0), (.int .i64 0), (.int .i64 0), (.slice none 0 0), (.slice none 0 0), (.int .i64 0), (.int .i64 0), (.string ⟨#[]⟩), (.int .i64 0), (.string ⟨#[]⟩), (.int .i64 0), (.string ⟨#[]⟩), (.int .i64 0), (.int .i64 0)], [(0, 3), (1, 3), (2, 3), (3, 3), (4, 47)], false, none, 0, none⟩),
  (57, ⟨true, 28, 344, [(.int .i64 0), (.int .i64 0), (.int .i64 0), (.int .i64 0), (.int .i64 0), (.int .i64 0), (.int .i64 0), (.int .i64 0), (.int .i64 0), (.slice none 0 0), (.slice none 0 0), (.slice none 0 0), (.slice none 0 0), (.int .i64 0), (.int .i64 0), (.int .i64 0), (.int .i64 0), (.slice none 0 0), (.slice none 0 0), (.int .i64 0), (.int .i64 0), (.string ⟨#[]⟩), (.int .i64 0), (.string ⟨#[]⟩), (.int .i64 0), (.string ⟨#[]⟩), (.int .i64 0), (.int .i64 0)], [(0, 3), (1, 3), (2, 3), (3, 3), (4, 47)], false, none, 0, none⟩),
  (59, ⟨true, 2, 32, [(.slice none 0 0), (.int .i64 0)], [(0, 22), (1, 3)], false, none, 0, none⟩),
  (60, ⟨true, 2, 32, [(.slice none 0 0), (.int .i64 0)], [(0, 22), (1, 3)], false, none, 0, none⟩),
  (67, ⟨false, 1, 8, [(.pointer none)], [], false, none, 0, none⟩),
  (92, ⟨true, 4, 40, [(.pointer none), (.pointer none), (.pointer none), (.string ⟨#[]⟩)], [(0, 17), (1, 17), (2, 17), (3, 9)], false, none, 0, none⟩),
  (93, ⟨true, 4, 40, [(.pointer none), (.pointer none), (.pointer none), (.string ⟨#[]⟩)], [(0, 17), (1, 17), (2, 17), (3, 9)], false, none, 0, none⟩),
  (98, ⟨false, 1, 4, [(.int .u32 0)], [], false, none, 0, some .u32⟩),
  (99, ⟨false, 1, 1, [(.int .u8 0)], [], false, none, 0, some .u8⟩),
  (100, ⟨false, 1, 1, [(.int .u8 0)], [], false, none, 0, some .u8⟩),
  (102, ⟨false, 1, 8, [(.pointer none)], [], false, none, 0, none⟩),
  (103, ⟨false, 1, 4, [(.int .i32 0)], [], false, none, 0, some .i32⟩),
  (104, ⟨false, 1, 4, [(.int .i32 0)], [], false, none, 0, some .i32⟩),
  (105, ⟨true, 11, 48, [(.int .u64 0), (.int .u64 0), (.int .u32 0), (.int .u8 0), (.int .u8 0), (.int .u8 0), (.int .u8 0), .nilFunc, (.pointer none), (.int .i32 0), (.int .i32 0)], [(0, 12), (1, 12), (2, 98), (3, 99), (4, 5), (5, 5), (6, 100), (7, 101), (8, 102), (9, 103), (10, 104)], false, none, 0, none⟩),
  (106, ⟨true, 11, 48, [(.int .u64 0), (.int .u64 0), (.int .u32 0), (.int .u8 0), (.int .u8 0), (.int .u8 0), (.int .u8 0), .nilFunc, (.pointer none), (.int .i32 0), (.int .i32 0)], [(0, 12), (1, 12), (2, 98), (3, 99), (4, 5), (5, 5), (6, 100), (7, 101), (8, 102), (9, 103), (10, 104)], false, none, 0, none⟩)]
theorem htb : TOK Try.prog tbl := TOK_of (by kernel_rfl)
theorem hmix : Try.prog.follows .mixedOrders = true := by kernel_rfl
end Go.Proofs.Ytahjhnijmmnkeaa
