import Derived.Test.YtdhogcklnehdhaaGreatDoorRAG
import Derived.Test.YtdhogcklnehdhaaGreatDoorProg
import Derived.Test.YtdhogcklnehdhaaGreatDoorRAE
import Derived.Test.YtdhogcklnehdhaaGreatDoorRAF
namespace Go.Am
set_option linter.unusedSimpArgs false
set_option linter.unusedVariables false
set_option linter.unnecessarySimpa false
set_option linter.unusedSectionVars false
set_option maxRecDepth 100000
open Go Go.RowKit
def goodF (P : Program) (k : Nat) (x : Func) : Prop := P.funcs[k]? = some x ∧ callB P k = some (false, false) ∧ ∀ c, x.body = some c → codeB x.ntmps c = true
def BT.Good (P : Program) : BT Func → Prop
  | .nil => True
  | .node k x l r => goodF P k x ∧ BT.Good P l ∧ BT.Good P r
theorem BT.good_get {P : Program} : ∀ {b : BT Func}, b.Good P → ∀ f fn, b.get f = some fn → goodF P f fn
  | .nil, _, f, fn, h => by cases h
  | .node k x l r, hg, f, fn, h => by
    rw [BT.get_node] at h
    split at h
    · rename_i hb; obtain rfl := Option.some.inj h; rw [Nat.eq_of_beq_eq_true hb]; exact hg.1
    · split at h
      · exact BT.good_get hg.2.1 f fn h
      · exact BT.good_get hg.2.2 f fn h
theorem fk {P : Program} {k : Nat} {x : Func} (h1 : P.funcs[k]? = some x) (h2 : callB P k = some (false, false)) (h3 : (match x.body with
    | some c => codeB x.ntmps c
    | none => true) = true) : goodF P k x := ⟨h1, h2, fun c hc => by rw [hc] at h3; exact h3⟩
end Go.Am
namespace Go.Proofs.YtdhogcklnehdhaaGreatDoor
open Go Go.RowKit Go.Am
def ttT : BT TI := (.node 79 ⟨true, 2, 32, [(.slice none 0 0), (.int .i64 0)], [(0, 22), (1, 3)], false, none, 0, none⟩ (.node 26 ⟨true, 1, 24, [(.slice none 0 0)], [(0, 25)], false, none, 0, none⟩ (.node 13 ⟨true, 2, 24, [(.string ⟨#[]⟩), (.int .u64 0)], [(0, 9), (1, 12)], false, none, 0, none⟩ (.node 7 ⟨true, 4, 24, [(.int .i64 0), (.int .i64 0), (.bool false), (.int .u8 0)], [(0, 2), (1, 3), (2, 4), (3, 6)], false, none, 0, none⟩ (.node 4 ⟨false, 1, 1, [(.bool false)], [], false, none, 0, none⟩ (.node 3 ⟨false, 1, 8, [(.int .i64 0)], [], false, none, 0, some .i64⟩ (.node 2 ⟨false, 1, 8, [(.int .i64 0)], [], false, none, 0, some .i64⟩ .nil .nil) .nil) (.node 6 ⟨false, 1, 1, [(.int .u8 0)], [], false, none, 0, some .u8⟩ (.node 5 ⟨false, 1, 1, [(.int .u8 0)], [], false, none, 0, some .u8⟩ .nil .nil) .nil)) (.node 10 ⟨false, 1, 16, [(.string ⟨#[]⟩)], [], false, none, 0, none⟩ (.node 9 ⟨false, 1, 16, [(.string ⟨#[]⟩)], [], false, none, 0, none⟩ (.node 8 ⟨true, 4, 24, [(.int .i64 0), (.int .i64 0), (.bool false), (.int .u8 0)], [(0, 2), (1, 3), (2, 4), (3, 6)], false, none, 0, none⟩ .nil .nil) .nil) (.node 12 ⟨false, 1, 8, [(.int .u64 0)], [], false, none, 0, some .u64⟩ (.node 11 ⟨false, 1, 16, [(.string ⟨#[]⟩)], [], false, none, 0, none⟩ .nil .nil) .nil))) (.node 19 ⟨true, 1, 8, [(.pointer none)], [(0, 17)], false, none, 0, none⟩ (.node 16 ⟨false, 1, 8, [(.pointer none)], [], false, none, 0, none⟩ (.node 15 ⟨false, 1, 8, [(.pointer none)], [], false, none, 0, none⟩ (.node 14 ⟨true, 2, 24, [(.string ⟨#[]⟩), (.int .u64 0)], [(0, 9), (1, 12)], false, none, 0, none⟩ .nil .nil) .nil) (.node 18 ⟨true, 1, 8, [(.pointer none)], [(0, 17)], false, none, 0, none⟩ (.node 17 ⟨false, 1, 8, [(.pointer none)], [], false, none, 0, none⟩ .nil .nil) .nil)) (.node 23 ⟨false, 1, 8, [(.pointer none)], [], false, none, 0, none⟩ (.node 22 ⟨false, 1, 24, [(.slice none 0 0)], [], true, some 3, 0, none⟩ (.node 21 ⟨false, 1, 4, [(.int .i32 0)], [], false, none, 0, some .i32⟩ .nil .nil) .nil) (.node 25 ⟨false, 1, 24, [(.slice none 0 0)], [], true, some 53, 0, none⟩ .nil .nil)))) (.node 46 ⟨false, 1, 24, [(.slice none 0 0)], [], true, some 86, 0, none⟩ (.node 35 ⟨false, 1, 24, [(.slice none 0 0)], [], true, some 29, 0, none⟩ (.node 32 ⟨false, 1, 24, [(.slice none 0 0)], [], true, some 49, 0, none⟩ (.node 29 ⟨false, 1, 8, [(.int .i64 0)], [], false, none, 0, some .i64⟩ (.node 27 ⟨true, 1, 24, [(.slice none 0 0)], [(0, 25)], false, none, 0, none⟩ .nil .nil) .nil) (.node 34 ⟨true, 3, 40, [(.slice none 0 0), (.int .i64 0), (.int .i64 0)], [(0, 32), (1, 3), (2, 3)], false, none, 0, none⟩ (.node 33 ⟨true, 3, 40, [(.slice none 0 0), (.int .i64 0), (.int .i64 0)], [(0, 32), (1, 3), (2, 3)], false, none, 0, none⟩ .nil .nil) .nil)) (.node 44 ⟨true, 3, 56, [(.int .i64 0), (.slice none 0 0), (.slice none 0 0)], [(0, 3), (1, 22), (2, 43)], false, none, 0, none⟩ (.node 43 ⟨false, 1, 24, [(.slice none 0 0)], [], true, some 45, 0, none⟩ (.node 38 ⟨false, 1, 24, [(.slice none 0 0)], [], true, some 88, 0, none⟩ .nil .nil) .nil) (.node 45 ⟨true, 3, 56, [(.int .i64 0), (.slice none 0 0), (.slice none 0 0)], [(0, 3), (1, 22), (2, 43)], false, none, 0, none⟩ .nil .nil))) (.node 55 ⟨true, 7, 120, [(.int .i64 0), (.int .i64 0), (.int .i64 0), (.slice none 0 0), (.slice none 0 0), (.slice none 0 0), (.slice none 0 0)], [(0, 3), (1, 3), (2, 45), (5, 46), (6, 46)], false, none, 0, none⟩ (.node 49 ⟨true, 9, 168, [(.int .i64 0), (.int .i64 0), (.int .i64 0), (.slice none 0 0), (.slice none 0 0), (.slice none 0 0), (.slice none 0 0), (.slice none 0 0), (.slice none 0 0)], [(0, 3), (1, 3), (2, 45), (5, 46), (6, 46), (7, 46), (8, 47)], false, none, 0, none⟩ (.node 48 ⟨true, 9, 168, [(.int .i64 0), (.int .i64 0), (.int .i64 0), (.slice none 0 0), (.slice none 0 0), (.slice none 0 0), (.slice none 0 0), (.slice none 0 0), (.slice none 0 0)], [(0, 3), (1, 3), (2, 45), (5, 46), (6, 46), (7, 46), (8, 47)], false, none, 0, none⟩ (.node 47 ⟨false, 1, 24, [(.slice none 0 0)], [], true, some 56, 0, none⟩ .nil .nil) .nil) (.node 53 ⟨true, 4, 64, [(.bool false), (.int .i64 0), (.slice none 0 0), (.slice none 0 0)], [(0, 4), (1, 45)], false, none, 0, none⟩ (.node 52 ⟨true, 4, 64, [(.bool false), (.int .i64 0), (.slice none 0 0), (.slice none 0 0)], [(0, 4), (1, 45)], false, none, 0, none⟩ .nil .nil) .nil)) (.node 64 ⟨true, 3, 40, [(.int .i64 0), (.int .i64 0), (.slice none 0 0)], [(0, 3), (1, 3), (2, 63)], false, none, 0, none⟩ (.node 63 ⟨false, 1, 24, [(.slice none 0 0)], [], true, some 65, 0, none⟩ (.node 56 ⟨true, 7, 120, [(.int .i64 0), (.int .i64 0), (.int .i64 0), (.slice none 0 0), (.slice none 0 0), (.slice none 0 0), (.slice none 0 0)], [(0, 3), (1, 3), (2, 45), (5, 46), (6, 46)], false, none, 0, none⟩ .nil .nil) .nil) (.node 65 ⟨true, 3, 40, [(.int .i64 0), (.int .i64 0), (.slice none 0 0)], [(0, 3), (1, 3), (2, 63)], false, none, 0, none⟩ .nil .nil))))) (.node 259 ⟨true, 2, 2, [(.int .u8 0), (.int .u8 0)], [(0, 5), (1, 5)], false, none, 0, none⟩ (.node 199 ⟨false, 1, 8, [(.pointer none)], [], false, none, 0, none⟩ (.node 125 ⟨false, 1, 8, [(.pointer none)], [], false, none, 0, none⟩ (.node 86 ⟨true, 2, 16, [(.int .i64 0), (.int .i64 0)], [(0, 3), (1, 3)], false, none, 0, none⟩ (.node 85 ⟨true, 2, 16, [(.int .i64 0), (.int .i64 0)], [(0, 3), (1, 3)], false, none, 0, none⟩ (.node 80 ⟨true, 2, 32, [(.slice none 0 0), (.int .i64 0)], [(0, 22), (1, 3)], false, none, 0, none⟩ .nil .nil) .nil) (.node 88 ⟨true, 15, 216, [(.int .i64 0), (.int .i64 0), (.int .i64 0), (.int .i64 0), (.int .i64 0), (.int .i64 0), (.slice none 0 0), (.slice none 0 0), (.int .i64 0), (.int .i64 0), (.int .i64 0), (.slice none 0 0), (.slice none 0 0), (.slice none 0 0), (.slice none 0 0)], [(0, 3), (1, 3), (2, 3), (3, 86), (5, 45), (8, 56)], false, none, 0, none⟩ (.node 87 ⟨true, 15, 216, [(.int .i64 0), (.int .i64 0), (.int .i64 0), (.int .i64 0), (.int .i64 0), (.int .i64 0), (.slice none 0 0), (.slice none 0 0), (.int .i64 0), (.int .i64 0), (.int .i64 0), (.slice none 0 0), (.slice none 0 0), (.slice none 0 0), (.slice none 0 0)], [(0, 3), (1, 3), (2, 3), (3, 86), (5, 45), (8, 56)], false, none, 0, none⟩ .nil .nil) .nil)) (.node 147 ⟨false, 1, 24, [(.slice none 0 0)], [], true, some 9, 0, none⟩ (.node 127 ⟨true, 4, 64, [(.slice none 0 0), (.int .i64 0), (.int .i64 0), (.slice none 0 0)], [(0, 34), (3, 38)], false, none, 0, none⟩ (.node 126 ⟨true, 4, 64, [(.slice none 0 0), (.int .i64 0), (.int .i64 0), (.slice none 0 0)], [(0, 34), (3, 38)], false, none, 0, none⟩ .nil .nil) .nil) (.node 158 ⟨false, 1, 8, [(.int .u64 0)], [], false, none, 0, some .u64⟩ .nil .nil))) (.node 241 ⟨true, 24, 24, [(.int .u8 0), (.int .u8 0), (.int .u8 0), (.int .u8 0), (.int .u8 0), (.int .u8 0), (.int .u8 0), (.int .u8 0), (.int .u8 0), (.int .u8 0), (.int .u8 0), (.int .u8 0), (.int .u8 0), (.int .u8 0), (.int .u8 0), (.int .u8 0), (.int .u8 0), (.int .u8 0), (.int .u8 0), (.int .u8 0), (.int .u8 0), (.int .u8 0), (.int .u8 0), (.int .u8 0)], [], false, some 5, 24, none⟩ (.node 228 ⟨false, 1, 8, [(.int .i64 0)], [], false, none, 0, some .i64⟩ (.node 201 ⟨true, 3, 40, [(.string ⟨#[]⟩), (.string ⟨#[]⟩), (.int .i64 0)], [(0, 9), (1, 9), (2, 3)], false, none, 0, none⟩ (.node 200 ⟨true, 3, 40, [(.string ⟨#[]⟩), (.string ⟨#[]⟩), (.int .i64 0)], [(0, 9), (1, 9), (2, 3)], false, none, 0, none⟩ .nil .nil) .nil) (.node 237 ⟨false, 1, 8, [(.int .u64 0)], [], false, none, 0, some .u64⟩ (.node 235 ⟨false, 1, 4, [(.int .u32 0)], [], false, none, 0, some .u32⟩ .nil .nil) .nil)) (.node 251 ⟨false, 1, 8, [(.pointer none)], [], false, none, 0, none⟩ (.node 247 ⟨false, 1, 8, [(.int .u64 0)], [], false, none, 0, some .u64⟩ (.node 243 ⟨false, 1, 24, [(.slice none 0 0)], [], true, some 5, 0, none⟩ .nil .nil) .nil) (.node 255 ⟨false, 1, 24, [(.slice none 0 0)], [], true, some 46, 0, none⟩ .nil .nil)))) (.node 291 ⟨false, 1, 8, [(.pointer none)], [], false, none, 0, none⟩ (.node 273 ⟨false, 1, 8, [(.pointer none)], [], false, none, 0, none⟩ (.node 265 ⟨true, 20, 160, [(.int .u64 0), (.int .u64 0), (.int .u64 0), (.int .u64 0), (.int .u64 0), (.int .u64 0), (.int .u64 0), (.int .u64 0), (.int .u64 0), (.int .u64 0), (.int .u64 0), (.int .u64 0), (.int .u64 0), (.int .u64 0), (.int .u64 0), (.int .u64 0), (.int .u64 0), (.int .u64 0), (.int .u64 0), (.int .u64 0)], [], false, some 237, 20, none⟩ (.node 261 ⟨true, 32, 32, [(.int .u8 0), (.int .u8 0), (.int .u8 0), (.int .u8 0), (.int .u8 0), (.int .u8 0), (.int .u8 0), (.int .u8 0), (.int .u8 0), (.int .u8 0), (.int .u8 0), (.int .u8 0), (.int .u8 0), (.int .u8 0), (.int .u8 0), (.int .u8 0), (.int .u8 0), (.int .u8 0), (.int .u8 0), (.int .u8 0), (.int .u8 0), (.int .u8 0), (.int .u8 0), (.int .u8 0), (.int .u8 0), (.int .u8 0), (.int .u8 0), (.int .u8 0), (.int .u8 0), (.int .u8 0), (.int .u8 0), (.int .u8 0)], [], false, some 260, 16, none⟩ (.node 260 ⟨true, 2, 2, [(.int .u8 0), (.int .u8 0)], [(0, 5), (1, 5)], false, none, 0, none⟩ .nil .nil) .nil) (.node 270 ⟨false, 1, 8, [(.pointer none)], [], false, none, 0, none⟩ (.node 267 ⟨false, 1, 8, [(.int .i64 0)], [], false, none, 0, some .i64⟩ .nil .nil) .nil)) (.node 287 ⟨true, 32, 32, [(.int .u8 0), (.int .u8 0), (.int .u8 0), (.int .u8 0), (.int .u8 0), (.int .u8 0), (.int .u8 0), (.int .u8 0), (.int .u8 0), (.int .u8 0), (.int .u8 0), (.int .u8 0), (.int .u8 0), (.int .u8 0), (.int .u8 0), (.int .u8 0), (.int .u8 0), (.int .u8 0), (.int .u8 0), (.int .u8 0), (.int .u8 0), (.int .u8 0), (.int .u8 0), (.int .u8 0), (.int .u8 0), (.int .u8 0), (.int .u8 0), (.int .u8 0), (.int .u8 0), (.int .u8 0), (.int .u8 0), (.int .u8 0)], [], false, some 5, 32, none⟩ (.node 280 ⟨true, 3, 48, [(.string ⟨#[]⟩), (.string ⟨#[]⟩), .nilIface], [(0, 9), (1, 9), (2, 223)], false, none, 0, none⟩ (.node 279 ⟨true, 3, 48, [(.string ⟨#[]⟩), (.string ⟨#[]⟩), .nilIface], [(0, 9), (1, 9), (2, 223)], false, none, 0, none⟩ .nil .nil) .nil) (.node 290 ⟨false, 1, 8, [(.pointer none)], [], false, none, 0, none⟩ .nil .nil))) (.node 305 ⟨false, 1, 1, [(.int .u8 0)], [], false, none, 0, some .u8⟩ (.node 298 ⟨true, 4, 40, [(.pointer none), (.pointer none), (.pointer none), (.string ⟨#[]⟩)], [(0, 17), (1, 17), (2, 17), (3, 9)], false, none, 0, none⟩ (.node 293 ⟨true, 1, 16, [(.string ⟨#[]⟩)], [(0, 9)], false, none, 0, none⟩ (.node 292 ⟨true, 1, 16, [(.string ⟨#[]⟩)], [(0, 9)], false, none, 0, none⟩ .nil .nil) .nil) (.node 304 ⟨false, 1, 1, [(.int .u8 0)], [], false, none, 0, some .u8⟩ (.node 299 ⟨true, 4, 40, [(.pointer none), (.pointer none), (.pointer none), (.string ⟨#[]⟩)], [(0, 17), (1, 17), (2, 17), (3, 9)], false, none, 0, none⟩ .nil .nil) .nil)) (.node 309 ⟨true, 11, 48, [(.int .u64 0), (.int .u64 0), (.int .u32 0), (.int .u8 0), (.int .u8 0), (.int .u8 0), (.int .u8 0), .nilFunc, (.pointer none), (.int .i32 0), (.int .i32 0)], [(0, 12), (1, 12), (2, 235), (3, 304), (4, 5), (5, 5), (6, 305), (7, 306), (8, 290), (9, 307), (10, 308)], false, none, 0, none⟩ (.node 308 ⟨false, 1, 4, [(.int .i32 0)], [], false, none, 0, some .i32⟩ (.node 307 ⟨false, 1, 4, [(.int .i32 0)], [], false, none, 0, some .i32⟩ .nil .nil) .nil) (.node 310 ⟨true, 11, 48, [(.int .u64 0), (.int .u64 0), (.int .u32 0), (.int .u8 0), (.int .u8 0), (.int .u8 0), (.int .u8 0), .nilFunc, (.pointer none), (.int .i32 0), (.int .i32 0)], [(0, 12), (1, 12), (2, 235), (3, 304), (4, 5), (5, 5), (6, 305), (7, 306), (8, 290), (9, 307), (10, 308)], false, none, 0, none⟩ .nil .nil))))))
theorem ttT_ok : TOK Tryz.prog ttT.toL := TOK_of (by kernel_rfl)
theorem ttT_ord : ttT.ord 0 100000 = true := by kernel_rfl
theorem mixT : Tryz.prog.follows .mixedOrders = true := by kernel_rfl
noncomputable def fsT : BT Func := (.node 147 Tryz.f147 (.node 74 Tryz.f74 (.node 38 Tryz.f38 (.node 20 Tryz.f20 (.node 11 Tryz.f11 (.node 7 Tryz.f7 (.node 5 Tryz.f5 (.node 4 Tryz.f4 (.node 3 Tryz.f3 .nil .nil) .nil) (.node 6 Tryz.f6 .nil .nil)) (.node 9 Tryz.f9 (.node 8 Tryz.f8 .nil .nil) (.node 10 Tryz.f10 .nil .nil))) (.node 16 Tryz.f16 (.node 14 Tryz.f14 (.node 13 Tryz.f13 (.node 12 Tryz.f12 .nil .nil) .nil) (.node 15 Tryz.f15 .nil .nil)) (.node 18 Tryz.f18 (.node 17 Tryz.f17 .nil .nil) (.node 19 Tryz.f19 .nil .nil)))) (.node 29 Tryz.f29 (.node 25 Tryz.f25 (.node 23 Tryz.f23 (.node 22 Tryz.f22 (.node 21 Tryz.f21 .nil .nil) .nil) (.node 24 Tryz.f24 .nil .nil)) (.node 27 Tryz.f27 (.node 26 Tryz.f26 .nil .nil) (.node 28 Tryz.f28 .nil .nil))) (.node 34 Tryz.f34 (.node 32 Tryz.f32 (.node 31 Tryz.f31 (.node 30 Tryz.f30 .nil .nil) .nil) (.node 33 Tryz.f33 .nil .nil)) (.node 36 Tryz.f36 (.node 35 Tryz.f35 .nil .nil) (.node 37 Tryz.f37 .nil .nil))))) (.node 56 Tryz.f56 (.node 47 Tryz.f47 (.node 43 Tryz.f43 (.node 41 Tryz.f41 (.node 40 Tryz.f40 (.node 39 Tryz.f39 .nil .nil) .nil) (.node 42 Tryz.f42 .nil .nil)) (.node 45 Tryz.f45 (.node 44 Tryz.f44 .nil .nil) (.node 46 Tryz.f46 .nil .nil))) (.node 52 Tryz.f52 (.node 50 Tryz.f50 (.node 49 Tryz.f49 (.node 48 Tryz.f48 .nil .nil) .nil) (.node 51 Tryz.f51 .nil .nil)) (.node 54 Tryz.f54 (.node 53 Tryz.f53 .nil .nil) (.node 55 Tryz.f55 .nil .nil)))) (.node 65 Tryz.f65 (.node 61 Tryz.f61 (.node 59 Tryz.f59 (.node 58 Tryz.f58 (.node 57 Tryz.f57 .nil .nil) .nil) (.node 60 Tryz.f60 .nil .nil)) (.node 63 Tryz.f63 (.node 62 Tryz.f62 .nil .nil) (.node 64 Tryz.f64 .nil .nil))) (.node 70 Tryz.f70 (.node 68 Tryz.f68 (.node 67 Tryz.f67 (.node 66 Tryz.f66 .nil .nil) .nil) (.node 69 Tryz.f69 .nil .nil)) (.node 72 Tryz.f72 (.node 71 Tryz.f71 .nil .nil) (.node 73 Tryz.f73 .nil .nil)))))) (.node 110 Tryz.f110 (.node 92 Tryz.f92 (.node 83 Tryz.f83 (.node 79 Tryz.f79 (.node 77 Tryz.f77 (.node 76 Tryz.f76 (.node 75 Tryz.f75 .nil .nil) .nil) (.node 78 Tryz.f78 .nil .nil)) (.node 81 Tryz.f81 (.node 80 Tryz.f80 .nil .nil) (.node 82 Tryz.f82 .nil .nil))) (.node 88 Tryz.f88 (.node 86 Tryz.f86 (.node 85 Tryz.f85 (.node 84 Tryz.f84 .nil .nil) .nil) (.node 87 Tryz.f87 .nil .nil)) (.node 90 Tryz.f90 (.node 89 Tryz.f89 .nil .nil) (.node 91 Tryz.f91 .nil .nil)))) (.node 101 Tryz.f101 (.node 97 Tryz.f97 (.node 95 Tryz.f95 (.node 94 Tryz.f94 (.node 93 Tryz.f93 .nil .nil) .nil) (.node 96 Tryz.f96 .nil .nil)) (.node 99 Tryz.f99 (.node 98 Tryz.f98 .nil .nil) (.node 100 Tryz.f100 .nil .nil))) (.node 106 Tryz.f106 (.node 104 Tryz.f104 (.node 103 Tryz.f103 (.node 102 Tryz.f102 .nil .nil) .nil) (.node 105 Tryz.f105 .nil .nil)) (.node 108 Tryz.f108 (.node 107 Tryz.f107 .nil .nil) (.node 109 Tryz.f109 .nil .nil))))) (.node 129 Tryz.f129 (.node 120 Tryz.f120 (.node 115 Tryz.f115 (.node 113 Tryz.f113 (.node 112 Tryz.f112 (.node 111 Tryz.f111 .nil .nil) .nil) (.node 114 Tryz.f114 .nil .nil)) (.node 118 Tryz.f118 (.node 117 Tryz.f117 .nil .nil) (.node 119 Tryz.f119 .nil .nil))) (.node 125 Tryz.f125 (.node 123 Tryz.f123 (.node 122 Tryz.f122 (.node 121 Tryz.f121 .nil .nil) .nil) (.node 124 Tryz.f124 .nil .nil)) (.node 127 Tryz.f127 (.node 126 Tryz.f126 .nil .nil) (.node 128 Tryz.f128 .nil .nil)))) (.node 138 Tryz.f138 (.node 134 Tryz.f134 (.node 132 Tryz.f132 (.node 131 Tryz.f131 (.node 130 Tryz.f130 .nil .nil) .nil) (.node 133 Tryz.f133 .nil .nil)) (.node 136 Tryz.f136 (.node 135 Tryz.f135 .nil .nil) (.node 137 Tryz.f137 .nil .nil))) (.node 143 Tryz.f143 (.node 141 Tryz.f141 (.node 140 Tryz.f140 (.node 139 Tryz.f139 .nil .nil) .nil) (.node 142 Tryz.f142 .nil .nil)) (.node 145 Tryz.f145 (.node 144 Tryz.f144 .nil .nil) (.node 146 Tryz.f146 .nil .nil))))))) (.node 220 Tryz.f220 (.node 183 Tryz.f183 (.node 165 Tryz.f165 (.node 156 Tryz.f156 (.node 152 Tryz.f152 (.node 150 Tryz.f150 (.node 149 Tryz.f149 (.node 148 Tryz.f148 .nil .nil) .nil) (.node 151 Tryz.f151 .nil .nil)) (.node 154 Tryz.f154 (.node 153 Tryz.f153 .nil .nil) (.node 155 Tryz.f155 .nil .nil))) (.node 161 Tryz.f161 (.node 159 Tryz.f159 (.node 158 Tryz.f158 (.node 157 Tryz.f157 .nil .nil) .nil) (.node 160 Tryz.f160 .nil .nil)) (.node 163 Tryz.f163 (.node 162 Tryz.f162 .nil .nil) (.node 164 Tryz.f164 .nil .nil)))) (.node 174 Tryz.f174 (.node 170 Tryz.f170 (.node 168 Tryz.f168 (.node 167 Tryz.f167 (.node 166 Tryz.f166 .nil .nil) .nil) (.node 169 Tryz.f169 .nil .nil)) (.node 172 Tryz.f172 (.node 171 Tryz.f171 .nil .nil) (.node 173 Tryz.f173 .nil .nil))) (.node 179 Tryz.f179 (.node 177 Tryz.f177 (.node 176 Tryz.f176 (.node 175 Tryz.f175 .nil .nil) .nil) (.node 178 Tryz.f178 .nil .nil)) (.node 181 Tryz.f181 (.node 180 Tryz.f180 .nil .nil) (.node 182 Tryz.f182 .nil .nil))))) (.node 201 Tryz.f201 (.node 192 Tryz.f192 (.node 188 Tryz.f188 (.node 186 Tryz.f186 (.node 185 Tryz.f185 (.node 184 Tryz.f184 .nil .nil) .nil) (.node 187 Tryz.f187 .nil .nil)) (.node 190 Tryz.f190 (.node 189 Tryz.f189 .nil .nil) (.node 191 Tryz.f191 .nil .nil))) (.node 197 Tryz.f197 (.node 195 Tryz.f195 (.node 194 Tryz.f194 (.node 193 Tryz.f193 .nil .nil) .nil) (.node 196 Tryz.f196 .nil .nil)) (.node 199 Tryz.f199 (.node 198 Tryz.f198 .nil .nil) (.node 200 Tryz.f200 .nil .nil)))) (.node 210 Tryz.f210 (.node 206 Tryz.f206 (.node 204 Tryz.f204 (.node 203 Tryz.f203 (.node 202 Tryz.f202 .nil .nil) .nil) (.node 205 Tryz.f205 .nil .nil)) (.node 208 Tryz.f208 (.node 207 Tryz.f207 .nil .nil) (.node 209 Tryz.f209 .nil .nil))) (.node 216 Tryz.f216 (.node 214 Tryz.f214 (.node 213 Tryz.f213 (.node 211 Tryz.f211 .nil .nil) .nil) (.node 215 Tryz.f215 .nil .nil)) (.node 218 Tryz.f218 (.node 217 Tryz.f217 .nil .nil) (.node 219 Tryz.f219 .nil .nil)))))) (.node 257 Tryz.f257 (.node 238 Tryz.f238 (.node 229 Tryz.f229 (.node 225 Tryz.f225 (.node 223 Tryz.f223 (.node 222 Tryz.f222 (.node 221 Tryz.f221 .nil .nil) .nil) (.node 224 Tryz.f224 .nil .nil)) (.node 227 Tryz.f227 (.node 226 Tryz.f226 .nil .nil) (.node 228 Tryz.f228 .nil .nil))) (.node 234 Tryz.f234 (.node 232 Tryz.f232 (.node 231 Tryz.f231 (.node 230 Tryz.f230 .nil .nil) .nil) (.node 233 Tryz.f233 .nil .nil)) (.node 236 Tryz.f236 (.node 235 Tryz.f235 .nil .nil) (.node 237 Tryz.f237 .nil .nil)))) (.node 248 Tryz.f248 (.node 244 Tryz.f244 (.node 241 Tryz.f241 (.node 240 Tryz.f240 (.node 239 Tryz.f239 .nil .nil) .nil) (.node 243 Tryz.f243 .nil .nil)) (.node 246 Tryz.f246 (.node 245 Tryz.f245 .nil .nil) (.node 247 Tryz.f247 .nil .nil))) (.node 253 Tryz.f253 (.node 251 Tryz.f251 (.node 250 Tryz.f250 (.node 249 Tryz.f249 .nil .nil) .nil) (.node 252 Tryz.f252 .nil .nil)) (.node 255 Tryz.f255 (.node 254 Tryz.f254 .nil .nil) (.node 256 Tryz.f256 .nil .nil))))) (.node 276 Tryz.f276 (.node 267 Tryz.f267 (.node 263 Tryz.f263 (.node 260 Tryz.f260 (.node 259 Tryz.f259 (.node 258 Tryz.f258 .nil .nil) .nil) (.node 261 Tryz.f261 .nil .nil)) (.node 265 Tryz.f265 (.node 264 Tryz.f264 .nil .nil) (.node 266 Tryz.f266 .nil .nil))) (.node 272 Tryz.f272 (.node 270 Tryz.f270 (.node 269 Tryz.f269 (.node 268 Tryz.f268 .nil .nil) .nil) (.node 271 Tryz.f271 .nil .nil)) (.node 274 Tryz.f274 (.node 273 Tryz.f273 .nil .nil) (.node 275 Tryz.f275 .nil .nil)))) (.node 285 Tryz.f285 (.node 281 Tryz.f281 (.node 279 Tryz.f279 (.node 278 Tryz.f278 (.node 277 Tryz.f277 .nil .nil) .nil) (.node 280 Tryz.f280 .nil .nil)) (.node 283 Tryz.f283 (.node 282 Tryz.f282 .nil .nil) (.node 284 Tryz.f284 .nil .nil))) (.node 290 Tryz.f290 (.node 288 Tryz.f288 (.node 287 Tryz.f287 (.node 286 Tryz.f286 .nil .nil) .nil) (.node 289 Tryz.f289 .nil .nil)) (.node 292 Tryz.f292 (.node 291 Tryz.f291 .nil .nil) (.node 293 Tryz.f293 .nil .nil))))))))
theorem fsT_good : fsT.Good Tryz.prog := ⟨fk Tryz.func147 (by kernel_rfl) (by kernel_rfl), ⟨fk Tryz.func74 (by kernel_rfl) (by kernel_rfl), ⟨fk Tryz.func38 (by kernel_rfl) (by kernel_rfl), ⟨fk Tryz.func20 (by kernel_rfl) (by kernel_rfl), ⟨fk Tryz.func11 (by kernel_rfl) (by kernel_rfl), ⟨fk Tryz.func7 (by kernel_rfl) (by kernel_rfl), ⟨fk Tryz.func5 (by kernel_rfl) (by kernel_rfl), ⟨fk Tryz.func4 (by kernel_rfl) (by kernel_rfl), ⟨fk Tryz.func3 (by kernel_rfl) (by kernel_rfl), trivial, trivial⟩, trivial⟩, ⟨fk Tryz.func6 (by kernel_rfl) (by kernel_rfl), trivial, trivial⟩⟩, ⟨fk Tryz.func9 (by kernel_rfl) (by kernel_rfl), ⟨fk Tryz.func8 (by kernel_rfl) (by kernel_rfl), trivial, trivial⟩, ⟨fk Tryz.func10 (by kernel_rfl) (by kernel_rfl), trivial, trivial⟩⟩⟩, ⟨fk Tryz.func16 (by kernel_rfl) (by kernel_rfl), ⟨fk Tryz.func14 (by kernel_rfl) (by kernel_rfl), ⟨fk Tryz.func13 (by kernel_rfl) (by kernel_rfl), ⟨fk Tryz.func12 (by kernel_rfl) (by kernel_rfl), trivial, trivial⟩, trivial⟩, ⟨fk Tryz.func15 (by kernel_rfl) (by kernel_rfl), trivial, trivial⟩⟩, ⟨fk Tryz.func18 (by kernel_rfl) (by kernel_rfl), ⟨fk Tryz.func17 (by kernel_rfl) (by kernel_rfl), trivial, trivial⟩, ⟨fk Tryz.func19 (by kernel_rfl) (by kernel_rfl), trivial, trivial⟩⟩⟩⟩, ⟨fk Tryz.func29 (by kernel_rfl) (by kernel_rfl), ⟨fk Tryz.func25 (by kernel_rfl) (by kernel_rfl), ⟨fk Tryz.func23 (by kernel_rfl) (by kernel_rfl), ⟨fk Tryz.func22 (by kernel_rfl) (by kernel_rfl), ⟨fk Tryz.func21 (by kernel_rfl) (by kernel_rfl), trivial, trivial⟩, trivial⟩, ⟨fk Tryz.func24 (by kernel_rfl) (by kernel_rfl), trivial, trivial⟩⟩, ⟨fk Tryz.func27 (by kernel_rfl) (by kernel_rfl), ⟨fk Tryz.func26 (by kernel_rfl) (by kernel_rfl), trivial, trivial⟩, ⟨fk Tryz.func28 (by kernel_rfl) (by kernel_rfl), trivial, trivial⟩⟩⟩, ⟨fk Tryz.func34 (by kernel_rfl) (by kernel_rfl), ⟨fk Tryz.func32 (by kernel_rfl) (by kernel_rfl), ⟨fk Tryz.func31 (by kernel_rfl) (by kernel_rfl), ⟨fk Tryz.func30 (by kernel_rfl) (by kernel_rfl), trivial, trivial⟩, trivial⟩, ⟨fk Tryz.func33 (by kernel_rfl) (by kernel_rfl), trivial, trivial⟩⟩, ⟨fk Tryz.func36 (by kernel_rfl) (by kernel_rfl), ⟨fk Tryz.func35 (by kernel_rfl) (by kernel_rfl), trivial, trivial⟩, ⟨fk Tryz.func37 (by kernel_rfl) (by kernel_rfl), trivial, trivial⟩⟩⟩⟩⟩, ⟨fk Tryz.func56 (by kernel_rfl) (by kernel_rfl), ⟨fk Tryz.func47 (by kernel_rfl) (by kernel_rfl), ⟨fk Tryz.func43 (by kernel_rfl) (by kernel_rfl), ⟨fk Tryz.func41 (by kernel_rfl) (by kernel_rfl), ⟨fk Tryz.func40 (by kernel_rfl) (by kernel_rfl), ⟨fk Tryz.func39 (by kernel_rfl) (by kernel_rfl), trivial, trivial⟩, trivial⟩, ⟨fk Tryz.func42 (by kernel_rfl) (by kernel_rfl), trivial, trivial⟩⟩, ⟨fk Tryz.func45 (by kernel_rfl) (by kernel_rfl), ⟨fk Tryz.func44 (by kernel_rfl) (by kernel_rfl), trivial, trivial⟩, ⟨fk Tryz.func46 (by kernel_rfl) (by kernel_rfl), trivial, trivial⟩⟩⟩, ⟨fk Tryz.func52 (by kernel_rfl) (by kernel_rfl), ⟨fk Tryz.func50 (by kernel_rfl) (by kernel_rfl), ⟨fk Tryz.func49 (by kernel_rfl) (by kernel_rfl), ⟨fk Tryz.func48 (by kernel_rfl) (by kernel_rfl), trivial, trivial⟩, trivial⟩, ⟨fk Tryz.func51 (by kernel_rfl) (by kernel_rfl), trivial, trivial⟩⟩, ⟨fk Tryz.func54 (by kernel_rfl) (by kernel_rfl), ⟨fk Tryz.func53 (by kernel_rfl) (by kernel_rfl), trivial, trivial⟩, ⟨fk Tryz.func55 (by kernel_rfl) (by kernel_rfl), trivial, trivial⟩⟩⟩⟩, ⟨fk Tryz.func65 (by kernel_rfl) (by kernel_rfl), ⟨fk Tryz.func61 (by kernel_rfl) (by kernel_rfl), ⟨fk Tryz.func59 (by kernel_rfl) (by kernel_rfl), ⟨fk Tryz.func58 (by kernel_rfl) (by kernel_rfl), ⟨fk Tryz.func57 (by kernel_rfl) (by kernel_rfl), trivial, trivial⟩, trivial⟩, ⟨fk Tryz.func60 (by kernel_rfl) (by kernel_rfl), trivial, trivial⟩⟩, ⟨fk Tryz.func63 (by kernel_rfl) (by kernel_rfl), ⟨fk Tryz.func62 (by kernel_rfl) (by kernel_rfl), trivial, trivial⟩, ⟨fk Tryz.func64 (by kernel_rfl) (by kernel_rfl), trivial, trivial⟩⟩⟩, ⟨fk Tryz.func70 (by kernel_rfl) (by kernel_rfl), ⟨fk Tryz.func68 (by kernel_rfl) (by kernel_rfl), ⟨fk Tryz.func67 (by kernel_rfl) (by kernel_rfl), ⟨fk Tryz.func66 (by kernel_rfl) (by kernel_rfl), trivial, trivial⟩, trivial⟩, ⟨fk Tryz.func69 (by kernel_rfl) (by kernel_rfl), trivial, trivial⟩⟩, ⟨fk Tryz.func72 (by kernel_rfl) (by kernel_rfl), ⟨fk Tryz.func71 (by kernel_rfl) (by kernel_rfl), trivial, trivial⟩, ⟨fk Tryz.func73 (by kernel_rfl) (by kernel_rfl), trivial, trivial⟩⟩⟩⟩⟩⟩, ⟨fk Tryz.func110 (by kernel_rfl) (by kernel_rfl), ⟨fk Tryz.func92 (by kernel_rfl) (by kernel_rfl), ⟨fk Tryz.func83 (by kernel_rfl) (by kernel_rfl), ⟨fk Tryz.func79 (by kernel_rfl) (by kernel_rfl), ⟨fk Tryz.func77 (by kernel_rfl) (by kernel_rfl), ⟨fk Tryz.func76 (by kernel_rfl) (by kernel_rfl), ⟨fk Tryz.func75 (by kernel_rfl) (by kernel_rfl), trivial, trivial⟩, trivial⟩, ⟨fk Tryz.func78 (by kernel_rfl) (by kernel_rfl), trivial, trivial⟩⟩, ⟨fk Tryz.func81 (by kernel_rfl) (by kernel_rfl), ⟨fk Tryz.func80 (by kernel_rfl) (by kernel_rfl), trivial, trivial⟩, ⟨fk Tryz.func82 (by kernel_rfl) (by kernel_rfl), trivial, trivial⟩⟩⟩, ⟨fk Tryz.func88 (by kernel_rfl) (by kernel_rfl), ⟨fk Tryz.func86 (by kernel_rfl) (by kernel_rfl), ⟨fk Tryz.func85 (by kernel_rfl) (by kernel_rfl), ⟨fk Tryz.func84 (by kernel_rfl) (by kernel_rfl), trivial, trivial⟩, trivial⟩, ⟨fk Tryz.func87 (by kernel_rfl) (by kernel_rfl), trivial, trivial⟩⟩, ⟨fk Tryz.func90 (by kernel_rfl) (by kernel_rfl), ⟨fk Tryz.func89 (by kernel_rfl) (by kernel_rfl), trivial, trivial⟩, ⟨fk Tryz.func91 (by kernel_rfl) (by kernel_rfl), trivial, trivial⟩⟩⟩⟩, ⟨fk Tryz.func101 (by kernel_rfl) (by kernel_rfl), ⟨fk Tryz.func97 (by kernel_rfl) (by kernel_rfl), ⟨fk Tryz.func95 (by kernel_rfl) (by kernel_rfl), ⟨fk Tryz.func94 (by kernel_rfl) (by kernel_rfl), ⟨fk Tryz.func93 (by kernel_rfl) (by kernel_rfl), trivial, trivial⟩, trivial⟩, ⟨fk Tryz.func96 (by kernel_rfl) (by kernel_rfl), trivial, trivial⟩⟩, ⟨fk Tryz.func99 (by kernel_rfl) (by kernel_rfl), ⟨fk Tryz.func98 (by kernel_rfl) (by kernel_rfl), trivial, trivial⟩, ⟨fk Tryz.func100 (by kernel_rfl) (by kernel_rfl), trivial, trivial⟩⟩⟩, ⟨fk Tryz.func106 (by kernel_rfl) (by kernel_rfl), ⟨fk Tryz.func104 (by kernel_rfl) (by kernel_rfl), ⟨fk Tryz.func103 (by kernel_rfl) (by kernel_rfl), ⟨fk Tryz.func102 (by kernel_rfl) (by kernel_rfl), trivial, trivial⟩, trivial⟩, ⟨fk Tryz.func105 (by kernel_rfl) (by kernel_rfl), trivial, trivial⟩⟩, ⟨fk Tryz.func108 (by kernel_rfl) (by kernel_rfl), ⟨fk Tryz.func107 (by kernel_rfl) (by kernel_rfl), trivial, trivial⟩, ⟨fk Tryz.func109 (by kernel_rfl) (by kernel_rfl), trivial, trivial⟩⟩⟩⟩⟩, ⟨fk Tryz.func129 (by kernel_rfl) (by kernel_rfl), ⟨fk Tryz.func120 (by kernel_rfl) (by kernel_rfl), ⟨fk Tryz.func115 (by kernel_rfl) (by kernel_rfl), ⟨fk Tryz.func113 (by kernel_rfl) (by kernel_rfl), ⟨fk Tryz.func112 (by kernel_rfl) (by kernel_rfl), ⟨fk Tryz.func111 (by kernel_rfl) (by kernel_rfl), trivial, trivial⟩, trivial⟩, ⟨fk Tryz.func114 (by kernel_rfl) (by kernel_rfl), trivial, trivial⟩⟩, ⟨fk Tryz.func118 (by kernel_rfl) (by kernel_rfl), ⟨fk Tryz.func117 (by kernel_rfl) (by kernel_rfl), trivial, trivial⟩, ⟨fk Tryz.func119 (by kernel_rfl) (by kernel_rfl), trivial, trivial⟩⟩⟩, ⟨fk Tryz.func125 (by kernel_rfl) (by kernel_rfl), ⟨fk Tryz.func123 (by kernel_rfl) (by kernel_rfl), ⟨fk Tryz.func122 (by kernel_rfl) (by kernel_rfl), ⟨fk Tryz.func121 (by kernel_rfl) (by kernel_rfl), trivial, trivial⟩, trivial⟩, ⟨fk Tryz.func124 (by kernel_rfl) (by kernel_rfl), trivial, trivial⟩⟩, ⟨fk Tryz.func127 (by kernel_rfl) (by kernel_rfl), ⟨fk Tryz.func126 (by kernel_rfl) (by kernel_rfl), trivial, trivial⟩, ⟨fk Tryz.func128 (by kernel_rfl) (by kernel_rfl), trivial, trivial⟩⟩⟩⟩, ⟨fk Tryz.func138 (by kernel_rfl) (by kernel_rfl), ⟨fk Tryz.func134 (by kernel_rfl) (by kernel_rfl), ⟨fk Tryz.func132 (by kernel_rfl) (by kernel_rfl), ⟨fk Tryz.func131 (by kernel_rfl) (by kernel_rfl), ⟨fk Tryz.func130 (by kernel_rfl) (by kernel_rfl), trivial, trivial⟩, trivial⟩, ⟨fk Tryz.func133 (by kernel_rfl) (by kernel_rfl), trivial, trivial⟩⟩, ⟨fk Tryz.func136 (by kernel_rfl) (by kernel_rfl), ⟨fk Tryz.func135 (by kernel_rfl) (by kernel_rfl), trivial, trivial⟩, ⟨fk Tryz.func137 (by kernel_rfl) (by kernel_rfl), trivial, trivial⟩⟩⟩, ⟨fk Tryz.func143 (by kernel_rfl) (by kernel_rfl), ⟨fk Tryz.func141 (by kernel_rfl) (by kernel_rfl), ⟨fk Tryz.func140 (by kernel_rfl) (by kernel_rfl), ⟨fk Tryz.func139 (by kernel_rfl) (by kernel_rfl), trivial, trivial⟩, trivial⟩, ⟨fk Tryz.func142 (by kernel_rfl) (by kernel_rfl), trivial, trivial⟩⟩, ⟨fk Tryz.func145 (by kernel_rfl) (by kernel_rfl), ⟨fk Tryz.func144 (by kernel_rfl) (by kernel_rfl), trivial, trivial⟩, ⟨fk Tryz.func146 (by kernel_rfl) (by kernel_rfl), trivial, trivial⟩⟩⟩⟩⟩⟩⟩, ⟨fk Tryz.func220 (by kernel_rfl) (by kernel_rfl), ⟨fk Tryz.func183 (by kernel_rfl) (by kernel_rfl), ⟨fk Tryz.func165 (by kernel_rfl) (by kernel_rfl), ⟨fk Tryz.func156 (by kernel_rfl) (by kernel_rfl), ⟨fk Tryz.func152 (by kernel_rfl) (by kernel_rfl), ⟨fk Tryz.func150 (by kernel_rfl) (by kernel_rfl), ⟨fk Tryz.func149 (by kernel_rfl) (by kernel_rfl), ⟨fk Tryz.func148 (by kernel_rfl) (by kernel_rfl), trivial, trivial⟩, trivial⟩, ⟨fk Tryz.func151 (by kernel_rfl) (by kernel_rfl), trivial, trivial⟩⟩, ⟨fk Tryz.func154 (by kernel_rfl) (by kernel_rfl), ⟨fk Tryz.func153 (by kernel_rfl) (by kernel_rfl), trivial, trivial⟩, ⟨fk Tryz.func155 (by kernel_rfl) (by kernel_rfl), trivial, trivial⟩⟩⟩, ⟨fk Tryz.func161 (by kernel_rfl) (by kernel_rfl), ⟨fk Tryz.func159 (by kernel_rfl) (by kernel_rfl), ⟨fk Tryz.func158 (by kernel_rfl) (by kernel_rfl), ⟨fk Tryz.func157 (by kernel_rfl) (by kernel_rfl), trivial, trivial⟩, trivial⟩, ⟨fk Tryz.func160 (by kernel_rfl) (by kernel_rfl), trivial, trivial⟩⟩, ⟨fk Tryz.func163 (by kernel_rfl) (by kernel_rfl), ⟨fk Tryz.func162 (by kernel_rfl) (by kernel_rfl), trivial, trivial⟩, ⟨fk Tryz.func164 (by kernel_rfl) (by kernel_rfl), trivial, trivial⟩⟩⟩⟩, ⟨fk Tryz.func174 (by kernel_rfl) (by kernel_rfl), ⟨fk Tryz.func170 (by kernel_rfl) (by kernel_rfl), ⟨fk Tryz.func168 (by kernel_rfl) (by kernel_rfl), ⟨fk Tryz.func167 (by kernel_rfl) (by kernel_rfl), ⟨fk Tryz.func166 (by kernel_rfl) (by kernel_rfl), trivial, trivial⟩, trivial⟩, ⟨fk Tryz.func169 (by kernel_rfl) (by kernel_rfl), trivial, trivial⟩⟩, ⟨fk Tryz.func172 (by kernel_rfl) (by kernel_rfl), ⟨fk Tryz.func171 (by kernel_rfl) (by kernel_rfl), trivial, trivial⟩, ⟨fk Tryz.func173 (by kernel_rfl) (by kernel_rfl), trivial, trivial⟩⟩⟩, ⟨fk Tryz.func179 (by kernel_rfl) (by kernel_rfl), ⟨fk Tryz.func177 (by kernel_rfl) (by kernel_rfl), ⟨fk Tryz.func176 (by kernel_rfl) (by kernel_rfl), ⟨fk Tryz.func175 (by kernel_rfl) (by kernel_rfl), trivial, trivial⟩, trivial⟩, ⟨fk Tryz.func178 (by kernel_rfl) (by kernel_rfl), trivial, trivial⟩⟩, ⟨fk Tryz.func181 (by kernel_rfl) (by kernel_rfl), ⟨fk Tryz.func180 (by kernel_rfl) (by kernel_rfl), trivial, trivial⟩, ⟨fk Tryz.func182 (by kernel_rfl) (by kernel_rfl), trivial, trivial⟩⟩⟩⟩⟩, ⟨fk Tryz.func201 (by kernel_rfl) (by kernel_rfl), ⟨fk Tryz.func192 (by kernel_rfl) (by kernel_rfl), ⟨fk Tryz.func188 (by kernel_rfl) (by kernel_rfl), ⟨fk Tryz.func186 (by kernel_rfl) (by kernel_rfl), ⟨fk Tryz.func185 (by kernel_rfl) (by kernel_rfl), ⟨fk Tryz.func184 (by kernel_rfl) (by kernel_rfl), trivial, trivial⟩, trivial⟩, ⟨fk Tryz.func187 (by kernel_rfl) (by kernel_rfl), trivial, trivial⟩⟩, ⟨fk Tryz.func190 (by kernel_rfl) (by kernel_rfl), ⟨fk Tryz.func189 (by kernel_rfl) (by kernel_rfl), trivial, trivial⟩, ⟨fk Tryz.func191 (by kernel_rfl) (by kernel_rfl), trivial, trivial⟩⟩⟩, ⟨fk Tryz.func197 (by kernel_rfl) (by kernel_rfl), ⟨fk Tryz.func195 (by kernel_rfl) (by kernel_rfl), ⟨fk Tryz.func194 (by kernel_rfl) (by kernel_rfl), ⟨fk Tryz.func193 (by kernel_rfl) (by kernel_rfl), trivial, trivial⟩, trivial⟩, ⟨fk Tryz.func196 (by kernel_rfl) (by kernel_rfl), trivial, trivial⟩⟩, ⟨fk Tryz.func199 (by kernel_rfl) (by kernel_rfl), ⟨fk Tryz.func198 (by kernel_rfl) (by kernel_rfl), trivial, trivial⟩, ⟨fk Tryz.func200 (by kernel_rfl) (by kernel_rfl), trivial, trivial⟩⟩⟩⟩, ⟨fk Tryz.func210 (by kernel_rfl) (by kernel_rfl), ⟨fk Tryz.func206 (by kernel_rfl) (by kernel_rfl), ⟨fk Tryz.func204 (by kernel_rfl) (by kernel_rfl), ⟨fk Tryz.func203 (by kernel_rfl) (by kernel_rfl), ⟨fk Tryz.func202 (by kernel_rfl) (by kernel_rfl), trivial, trivial⟩, trivial⟩, ⟨fk Tryz.func205 (by kernel_rfl) (by kernel_rfl), trivial, trivial⟩⟩, ⟨fk Tryz.func208 (by kernel_rfl) (by kernel_rfl), ⟨fk Tryz.func207 (by kernel_rfl) (by kernel_rfl), trivial, trivial⟩, ⟨fk Tryz.func209 (by kernel_rfl) (by kernel_rfl), trivial, trivial⟩⟩⟩, ⟨fk Tryz.func216 (by kernel_rfl) (by kernel_rfl), ⟨fk Tryz.func214 (by kernel_rfl) (by kernel_rfl), ⟨fk Tryz.func213 (by kernel_rfl) (by kernel_rfl), ⟨fk Tryz.func211 (by kernel_rfl) (by kernel_rfl), trivial, trivial⟩, trivial⟩, ⟨fk Tryz.func215 (by kernel_rfl) (by kernel_rfl), trivial, trivial⟩⟩, ⟨fk Tryz.func218 (by kernel_rfl) (by kernel_rfl), ⟨fk Tryz.func217 (by kernel_rfl) (by kernel_rfl), trivial, trivial⟩, ⟨fk Tryz.func219 (by kernel_rfl) (by kernel_rfl), trivial, trivial⟩⟩⟩⟩⟩⟩, ⟨fk Tryz.func257 (by kernel_rfl) (by kernel_rfl), ⟨fk Tryz.func238 (by kernel_rfl) (by kernel_rfl), ⟨fk Tryz.func229 (by kernel_rfl) (by kernel_rfl), ⟨fk Tryz.func225 (by kernel_rfl) (by kernel_rfl), ⟨fk Tryz.func223 (by kernel_rfl) (by kernel_rfl), ⟨fk Tryz.func222 (by kernel_rfl) (by kernel_rfl), ⟨fk Tryz.func221 (by kernel_rfl) (by kernel_rfl), trivial, trivial⟩, trivial⟩, ⟨fk Tryz.func224 (by kernel_rfl) (by kernel_rfl), trivial, trivial⟩⟩, ⟨fk Tryz.func227 (by kernel_rfl) (by kernel_rfl), ⟨fk Tryz.func226 (by kernel_rfl) (by kernel_rfl), trivial, trivial⟩, ⟨fk Tryz.func228 (by kernel_rfl) (by kernel_rfl), trivial, trivial⟩⟩⟩, ⟨fk Tryz.func234 (by kernel_rfl) (by kernel_rfl), ⟨fk Tryz.func232 (by kernel_rfl) (by kernel_rfl), ⟨fk Tryz.func231 (by kernel_rfl) (by kernel_rfl), ⟨fk Tryz.func230 (by kernel_rfl) (by kernel_rfl), trivial, trivial⟩, trivial⟩, ⟨fk Tryz.func233 (by kernel_rfl) (by kernel_rfl), trivial, trivial⟩⟩, ⟨fk Tryz.func236 (by kernel_rfl) (by kernel_rfl), ⟨fk Tryz.func235 (by kernel_rfl) (by kernel_rfl), trivial, trivial⟩, ⟨fk Tryz.func237 (by kernel_rfl) (by kernel_rfl), trivial, trivial⟩⟩⟩⟩, ⟨fk Tryz.func248 (by kernel_rfl) (by kernel_rfl), ⟨fk Tryz.func244 (by kernel_rfl) (by kernel_rfl), ⟨fk Tryz.func241 (by kernel_rfl) (by kernel_rfl), ⟨fk Tryz.func240 (by kernel_rfl) (by kernel_rfl), ⟨fk Tryz.func239 (by kernel_rfl) (by kernel_rfl), trivial, trivial⟩, trivial⟩, ⟨fk Tryz.func243 (by kernel_rfl) (by kernel_rfl), trivial, trivial⟩⟩, ⟨fk Tryz.func246 (by kernel_rfl) (by kernel_rfl), ⟨fk Tryz.func245 (by kernel_rfl) (by kernel_rfl), trivial, trivial⟩, ⟨fk Tryz.func247 (by kernel_rfl) (by kernel_rfl), trivial, trivial⟩⟩⟩, ⟨fk Tryz.func253 (by kernel_rfl) (by kernel_rfl), ⟨fk Tryz.func251 (by kernel_rfl) (by kernel_rfl), ⟨fk Tryz.func250 (by kernel_rfl) (by kernel_rfl), ⟨fk Tryz.func249 (by kernel_rfl) (by kernel_rfl), trivial, trivial⟩, trivial⟩, ⟨fk Tryz.func252 (by kernel_rfl) (by kernel_rfl), trivial, trivial⟩⟩, ⟨fk Tryz.func255 (by kernel_rfl) (by kernel_rfl), ⟨fk Tryz.func254 (by kernel_rfl) (by kernel_rfl), trivial, trivial⟩, ⟨fk Tryz.func256 (by kernel_rfl) (by kernel_rfl), trivial, trivial⟩⟩⟩⟩⟩, ⟨fk Tryz.func276 (by kernel_rfl) (by kernel_rfl), ⟨fk Tryz.func267 (by kernel_rfl) (by kernel_rfl), ⟨fk Tryz.func263 (by kernel_rfl) (by kernel_rfl), ⟨fk Tryz.func260 (by kernel_rfl) (by kernel_rfl), ⟨fk Tryz.func259 (by kernel_rfl) (by kernel_rfl), ⟨fk Tryz.func258 (by kernel_rfl) (by kernel_rfl), trivial, trivial⟩, trivial⟩, ⟨fk Tryz.func261 (by kernel_rfl) (by kernel_rfl), trivial, trivial⟩⟩, ⟨fk Tryz.func265 (by kernel_rfl) (by kernel_rfl), ⟨fk Tryz.func264 (by kernel_rfl) (by kernel_rfl), trivial, trivial⟩, ⟨fk Tryz.func266 (by kernel_rfl) (by kernel_rfl), trivial, trivial⟩⟩⟩, ⟨fk Tryz.func272 (by kernel_rfl) (by kernel_rfl), ⟨fk Tryz.func270 (by kernel_rfl) (by kernel_rfl), ⟨fk Tryz.func269 (by kernel_rfl) (by kernel_rfl), ⟨fk Tryz.func268 (by kernel_rfl) (by kernel_rfl), trivial, trivial⟩, trivial⟩, ⟨fk Tryz.func271 (by kernel_rfl) (by kernel_rfl), trivial, trivial⟩⟩, ⟨fk Tryz.func274 (by kernel_rfl) (by kernel_rfl), ⟨fk Tryz.func273 (by kernel_rfl) (by kernel_rfl), trivial, trivial⟩, ⟨fk Tryz.func275 (by kernel_rfl) (by kernel_rfl), trivial, trivial⟩⟩⟩⟩, ⟨fk Tryz.func285 (by kernel_rfl) (by kernel_rfl), ⟨fk Tryz.func281 (by kernel_rfl) (by kernel_rfl), ⟨fk Tryz.func279 (by kernel_rfl) (by kernel_rfl), ⟨fk Tryz.func278 (by kernel_rfl) (by kernel_rfl), ⟨fk Tryz.func277 (by kernel_rfl) (by kernel_rfl), trivial, trivial⟩, trivial⟩, ⟨fk Tryz.func280 (by kernel_rfl) (by kernel_rfl), trivial, trivial⟩⟩, ⟨fk Tryz.func283 (by kernel_rfl) (by kernel_rfl), ⟨fk Tryz.func282 (by kernel_rfl) (by kernel_rfl), trivial, trivial⟩, ⟨fk Tryz.func284 (by kernel_rfl) (by kernel_rfl), trivial, trivial⟩⟩⟩, ⟨fk Tryz.func290 (by kernel_rfl) (by kernel_rfl), ⟨fk Tryz.func288 (by kernel_rfl) (by kernel_rfl), ⟨fk Tryz.func287 (by kernel_rfl) (by kernel_rfl), ⟨fk Tryz.func286 (by kernel_rfl) (by kernel_rfl), trivial, trivial⟩, trivial⟩, ⟨fk Tryz.func289 (by kernel_rfl) (by kernel_rfl), trivial, trivial⟩⟩, ⟨fk Tryz.func292 (by kernel_rfl) (by kernel_rfl), ⟨fk Tryz.func291 (by kernel_rfl) (by kernel_rfl), trivial, trivial⟩, ⟨fk Tryz.func293 (by kernel_rfl) (by kernel_rfl), trivial, trivial⟩⟩⟩⟩⟩⟩⟩⟩
end Go.Proofs.YtdhogcklnehdhaaGreatDoor
namespace Go.Proofs.YtdhogcklnehdhaaGreatDoor
set_option linter.unusedSimpArgs false
set_option linter.unusedVariables false
set_option linter.unnecessarySimpa false
set_option linter.unusedSectionVars false
set_option maxRecDepth 100000
open Go Go.RowKit Go.Am Go.Proofs.Grow
noncomputable def cf0 : Cfg := { P := Tryz.prog, tt := ttT, fs := fsT.get, kt := fun _ _ _ => none, pol := fun _ => true }
theorem cf0_ok : CfgOK cf0 := ⟨mixT, ttT_ok, ttT_ord, fun f fn h => BT.good_get fsT_good f fn h, fun _ _ _ _ _ h => by cases h⟩
noncomputable def okI (x : Rn (AV × List (Nat × AO) × Nat)) (v : Nat) : Bool := match x with
  | .ok (.d (.v (.int .i64 (.ofNat m))), [], _) => Nat.beq m v
  | _ => false
theorem okI_fn {cf : Cfg} (hc : CfgOK cf) {k : Nat} {f : FuncId} {ys : List AV} {n v : Nat} (h : okI (runF cf k f [] ys n) v = true) : FnM cf.P f [] ys (vI (v : Int)) [] := by
  unfold okI at h
  split at h
  · rename_i m n' hr
    have := Nat.eq_of_beq_eq_true h
    subst this
    exact runF_ok hc k _ _ _ _ _ _ _ hr
  · cases h
/-- The sets from a on, n of them. -/
noncomputable def sizBl (a n : Nat) : Bool := Nat.rec (motive := fun _ => Bool) true (fun i b => b && okI (runF cf0 60 178 [] [vI ((a + i : Nat) : Int)] 0) (popN (a + i))) n
theorem sizBl_get {a : Nat} : ∀ {n : Nat}, sizBl a n = true → ∀ i, i < n → FnM Tryz.prog 178 [] [vI ((a + i : Nat) : Int)] (vI (popN (a + i) : Int)) []
  | 0, _, i, h => by omega
  | n + 1, h, i, hi => by
    have h : (sizBl a n && okI (runF cf0 60 178 [] [vI ((a + n : Nat) : Int)] 0) (popN (a + n))) = true := h
    rw [Bool.and_eq_true] at h
    rcases Nat.lt_or_ge i n with h1 | h1
    · exact sizBl_get h.1 i h1
    · obtain rfl : i = n := by omega
      exact okI_fn cf0_ok h.2
theorem sizBl0 : sizBl 0 128 = true := by kernel_rfl
theorem sizBl1 : sizBl 128 128 = true := by kernel_rfl
theorem sizBl2 : sizBl 256 128 = true := by kernel_rfl
theorem sizBl3 : sizBl 384 128 = true := by kernel_rfl
theorem sizBl4 : sizBl 512 128 = true := by kernel_rfl
theorem sizBl5 : sizBl 640 128 = true := by kernel_rfl
theorem sizBl6 : sizBl 768 128 = true := by kernel_rfl
theorem sizBl7 : sizBl 896 128 = true := by kernel_rfl
theorem size_m (s : Nat) (hs : s < 1024) : FnM Tryz.prog 178 [] [vI (s : Int)] (vI (popN s : Int)) [] := by
  rcases Nat.lt_or_ge s 128 with h0 | h0
  · have := sizBl_get sizBl0 (s - 0) (by omega); rwa [show 0 + (s - 0) = s by omega] at this
  rcases Nat.lt_or_ge s 256 with h1 | h1
  · have := sizBl_get sizBl1 (s - 128) (by omega); rwa [show 128 + (s - 128) = s by omega] at this
  rcases Nat.lt_or_ge s 384 with h2 | h2
  · have := sizBl_get sizBl2 (s - 256) (by omega); rwa [show 256 + (s - 256) = s by omega] at this
  rcases Nat.lt_or_ge s 512 with h3 | h3
  · have := sizBl_get sizBl3 (s - 384) (by omega); rwa [show 384 + (s - 384) = s by omega] at this
  rcases Nat.lt_or_ge s 640 with h4 | h4
  · have := sizBl_get sizBl4 (s - 512) (by omega); rwa [show 512 + (s - 512) = s by omega] at this
  rcases Nat.lt_or_ge s 768 with h5 | h5
  · have := sizBl_get sizBl5 (s - 640) (by omega); rwa [show 640 + (s - 640) = s by omega] at this
  rcases Nat.lt_or_ge s 896 with h6 | h6
  · have := sizBl_get sizBl6 (s - 768) (by omega); rwa [show 768 + (s - 768) = s by omega] at this
  have := sizBl_get sizBl7 (s - 896) (by omega)
  rwa [show 896 + (s - 896) = s by omega] at this
end Go.Proofs.YtdhogcklnehdhaaGreatDoor
namespace Go.Proofs.YtdhogcklnehdhaaGreatDoor
set_option linter.unusedSimpArgs false
set_option linter.unusedVariables false
set_option linter.unnecessarySimpa false
set_option linter.unusedSectionVars false
set_option maxRecDepth 100000
open Go Go.RowKit Go.Am Go.Proofs.Grow
def holdF (d : List Mb) : Bool × Int := if valC d ≠ 0 then (false, valC d) else ((fndN d 0).1 == 0, 0)
theorem hold_m (d : List Mb) (hd : OkC d) : FnM Tryz.prog 60 [] [aCf d] (.tup [vB (holdF d).1, vI (holdF d).2]) [] := by
  have findS_m := find_m d hd size_m
  refine FnM.of htb Tryz.func60 rfl rfl rfl rfl rfl fun cx hN h0 => ?_
  unfold holdF
  by_cases hv : valC d ≠ 0
  · have t1 : (valC d != 0) = true := by simpa using hv
    rw [if_pos hv]
    (repeat' (first | (refine nx ?_) | (refine WD_call (by exact rfl) ?_; first | (refine WD_c0 (valC_m _ ?_) ?_; (exact hyp))) | ((with_reducible apply WD_id); first | (refine WD_clr htb ?_))))
    exact gE (.inr rfl) rfl rfl trivial
  · have t1 : (valC d != 0) = false := by simpa using hv
    rw [if_neg hv]
    (repeat' (first | (refine nx ?_) | (refine WD_call (by exact rfl) ?_; first | (refine WD_c0 (valC_m _ ?_) ?_; (exact hyp)) | (refine WD_c0 (findS_m) ?_)) | ((with_reducible apply WD_id); first | (refine WD_clr htb ?_))))
    refine gE (.inr rfl) rfl ?_ trivial
    have e : (((fndN d 0).1 : Int) == 0) = ((fndN d 0).1 == 0) := by rw [Bool.eq_iff_iff]; simp
    show AV.tup [vB (((fndN d 0).1 : Int) == 0), vI 0] = _
    rw [e]
/-- A right configuration with small trusts, and a set of its members. -/
structure OkS (c : List Mb) (s : Nat) : Prop where
  cc : OkC c
  v : valC c = 0
  s : s ≤ memN c
  kb : ∀ k, k < c.length → kbT (nth c k).t ≤ 1000
theorem OkS.lt {c : List Mb} {s : Nat} (h : OkS c s) : s < 1024 := Nat.lt_of_le_of_lt h.s (mem_lt h.cc.len)
theorem askA_m (c : List Mb) (s : Nat) (h : OkS c s) : FnM Tryz.prog 143 [] [aCf c, vI (s : Int)] (vI 0) [] := by
  have hc := h.cc
  have hv := h.v
  have t1 : (valC c != 0) = false := by rw [hv]; rfl
  have t2 : decide ((s : Int) < 0) = false := by simp
  have t3 : decide ((s : Int) > ((memN c : Nat) : Int)) = false := by have := h.s; simp only [decide_eq_false_iff_not]; omega
  refine FnM.of htb Tryz.func143 rfl rfl rfl rfl rfl fun cx hN h0 => ?_
  (repeat' (first | (refine nx ?_) | (refine WD_unk (by exact rfl) ?_; ((refine WD_tf (by exact rfl) (by exact rfl) ?_ ?_) <;> (intro hb; (fail_if_success (with_reducible injection hb)); rw [hb]; (try simp only [List.length_map] at hb)))) | (refine WD_call (by exact rfl) ?_; first | (refine WD_c0 (valC_m _ ?_) ?_; (exact hyp)) | (refine WD_c0 (mbsA_m _ ?_) ?_; (exact hyp))) | ((with_reducible apply WD_id); first | (refine WD_cut htb ?_) | (refine WD_cut3 htb ?_) | (refine WD_lens htb ?_) | (refine WD_caps htb ?_) | (refine WD_cps htb ?_) | (refine WD_cpp htb ?_) | (refine WD_api htb ?_) | (refine WD_apz htb ?_) | (refine WD_clr htb ?_)) | ((refine WD_tf (by exact rfl) (by exact rfl) ?_ ?_) <;> (intro hb; (fail_if_success (with_reducible injection hb)); rw [hb]; (try simp only [List.length_map] at hb))) | (((with_reducible apply gC2); exact rfl) <;> (intro hb; rw [hb]))))
  exact gE (.inr rfl) rfl rfl trivial
theorem askB_m (c : List Mb) (s : Nat) (h : OkS c s) : FnM Tryz.prog 64 [] [aCf c, vI (s : Int)] (vI 0) [] := by
  have hc := h.cc
  have hv := h.v
  have t1 : (valC c != 0) = false := by rw [hv]; rfl
  have t2 : decide ((s : Int) < 0) = false := by simp
  have t3 : decide ((s : Int) > ((memN c : Nat) : Int)) = false := by have := h.s; simp only [decide_eq_false_iff_not]; omega
  refine FnM.of htb Tryz.func64 rfl rfl rfl rfl rfl fun cx hN h0 => ?_
  (repeat' (first | (refine nx ?_) | (refine WD_call (by exact rfl) ?_; first | (refine WD_c0 (valC_m _ ?_) ?_; (exact hyp)) | (refine WD_c0 (mbsB_m _ ?_) ?_; (exact hyp))) | ((with_reducible apply WD_id); first | (refine WD_clr htb ?_))))
  exact gE (.inr rfl) rfl rfl trivial
def splN (c : List Mb) (s : Nat) : Bool := !(holdF (delC c s)).1
theorem spl_m (c : List Mb) (s : Nat) (h : OkS c s) : FnM Tryz.prog 65 [] [aCf c, vI (s : Int)] (vB (splN c s)) [] := by
  have delX_m := delC_m c s h.cc h.lt h.kb
  have holX_m := hold_m (delC c s) (delC_ok h.cc s)
  refine FnM.of htb Tryz.func65 rfl rfl rfl rfl rfl fun cx hN h0 => ?_
  (repeat' (first | (refine nx ?_) | (refine WD_call (by exact rfl) ?_; first | (refine WD_c0 (delX_m) ?_) | (refine WD_c0 (holX_m) ?_)) | ((with_reducible apply WD_id); first | (refine WD_clr htb ?_))))
  exact gE (.inr rfl) rfl rfl trivial
theorem Spl_m (c : List Mb) (s : Nat) (h : OkS c s) : FnM Tryz.prog 21 [] [aCf c, vI (s : Int)] (.tup [vB (splN c s), vI 0]) [] := by
  refine FnM.of htb Tryz.func21 rfl rfl rfl rfl rfl fun cx hN h0 => ?_
  (repeat' (first | (refine nx ?_) | (refine WD_call (by exact rfl) ?_; first | (refine WD_c0 (askB_m _ _ ?_) ?_; (exact hyp)) | (refine WD_c0 (spl_m _ _ ?_) ?_; (exact hyp))) | ((with_reducible apply WD_id); first | (refine WD_clr htb ?_))))
  exact gE (.inr rfl) rfl rfl trivial
end Go.Proofs.YtdhogcklnehdhaaGreatDoor
namespace Go.Proofs.YtdhogcklnehdhaaGreatDoor
set_option linter.unusedSimpArgs false
set_option linter.unusedVariables false
set_option linter.unnecessarySimpa false
set_option linter.unusedSectionVars false
set_option maxRecDepth 100000
open Go Go.RowKit Go.Am Go.Proofs.Grow
section
variable {o : Oper} {t t' : TypeId} {x y : Operand} {T : Nat → Option AV} {M : Nat → Option AO} {a b : Nat}
theorem shrN_step (ho : o.op = .binOp .shr t x y t') (hx : evA T x = some (vI (a : Int))) (hy : evA T y = some (vI (b : Int))) (h0 : b ≤ 61 := by exact num) : StepOK Tryz.prog o T M ⟨vI ((a / 2 ^ b : Nat) : Int), [], []⟩ :=
  step_bits ho hx hy fun w => by
    have h1 : ¬ (b : Int) < 0 := by omega
    have e : ((a : Int)).fdiv (2 ^ (min b 64)) = ((a / 2 ^ b : Nat) : Int) := by
      rw [show min b 64 = b by omega, Int.fdiv_eq_ediv_of_nonneg _ (by exact Int.le_of_lt (Int.pow_pos (by decide))), Int.natCast_ediv, Int.natCast_pow]; rfl
    simp [binOp, Op.shift, IntKind.bits, h1, e]
theorem band1_step (ho : o.op = .binOp .and t x y t') (hx : evA T x = some (vI (a : Int))) (hy : evA T y = some (vI 1)) (ha : a < 4611686018427387904 := by exact num) : StepOK Tryz.prog o T M ⟨vI ((a &&& 1 : Nat) : Int), [], []⟩ :=
  bandN_step (b := 1) ho hx hy ha (by decide)
end
theorem validR_m (s : Int) : FnM Tryz.prog 70 [] [vI s] (vB (validS s)) [] := by
  refine FnM.of htb Tryz.func70 rfl rfl rfl rfl rfl fun cx hN h0 => ?_
  (repeat' (first | (refine nx ?_) | ((with_reducible apply WD_id); first | (refine WD_clr htb ?_)) | ((refine WD_tf (by exact rfl) (by exact rfl) ?_ ?_) <;> (intro hb; (fail_if_success (with_reducible injection hb)); rw [hb]; (try simp only [List.length_map] at hb)))))
  all_goals refine gE (.inr rfl) rfl (congrArg vB ?_) trivial
  all_goals first | (simp_all [validS]; done) | (simp_all [validS]; intros; omega) | (simp_all [validS]; omega)
theorem hasR_m (s : Nat) (k : Int) (hs : s < 1024) : FnM Tryz.prog 24 [] [vI (s : Int), vI k] (vB (hasB s k)) [] := by
  have hv := valid_nat hs
  refine FnM.of htb Tryz.func24 rfl rfl rfl rfl rfl fun cx hN h0 => ?_
  by_cases h1 : 0 ≤ k
  · have t1 : decide (k ≥ 0) = true := by simpa using h1
    by_cases h2 : k < 10
    · have t2 : decide (k < 10) = true := by simpa using h2
      obtain ⟨n, rfl⟩ : ∃ n : Nat, k = (n : Int) := ⟨k.toNat, by omega⟩
      have hn : n < 10 := by omega
      have hn61 : n ≤ 61 := by omega
      have hd : s / 2 ^ n < 4611686018427387904 := Nat.lt_of_le_of_lt (Nat.div_le_self _ _) (by omega)
      rw [has_nat hs hn]
      (repeat' (first | ((with_reducible apply WD_id); first | (refine WD_eq (shrN_step rfl rfl rfl) ?_) | (refine WD_eq (band1_step rfl rfl rfl) ?_)) | (refine nx ?_) | (refine WD_call (by exact rfl) ?_; first | (refine WD_c0 (validR_m _) ?_)) | ((with_reducible apply WD_id); first | (refine WD_clr htb ?_))))
      exact gE (.inr rfl) rfl (congrArg vB (by
        rw [Nat.testBit, Nat.shiftRight_eq_div_pow, Nat.and_comm 1]
        have := Nat.and_one_is_mod (s / 2 ^ n)
        rcases Nat.mod_two_eq_zero_or_one (s / 2 ^ n) with h | h <;> simp [this, h])) trivial
    · have t2 : decide (k < 10) = false := by simpa using h2
      (repeat' (first | (refine nx ?_) | (refine WD_call (by exact rfl) ?_; first | (refine WD_c0 (validR_m _) ?_)) | ((with_reducible apply WD_id); first | (refine WD_clr htb ?_))))
      exact gE (.inr rfl) rfl (congrArg vB (by simp [hasB, nodeB, h2])) trivial
  · have t1 : decide (k ≥ 0) = false := by simpa using h1
    (repeat' (first | (refine nx ?_) | (refine WD_call (by exact rfl) ?_; first | (refine WD_c0 (validR_m _) ?_)) | ((with_reducible apply WD_id); first | (refine WD_clr htb ?_))))
    exact gE (.inr rfl) rfl (congrArg vB (by simp [hasB, nodeB, h1])) trivial
theorem ofR_m (l : List Int) (hl : l.length ≤ 1000) : FnM Tryz.prog 181 [] [lI l] (.tup [vI (ofI l 0).1, vI (ofI l 0).2]) [] := by
  refine FnM.of htb Tryz.func181 rfl rfl rfl rfl rfl fun cx hN h0 => ?_
  (repeat' (first | (refine nx ?_) | ((with_reducible apply WD_id); first | (refine WD_clr htb ?_))))
  (refine WA_anyV (α := Nat × Nat) (fun x => l.length - x.1) ((0, 0)) [9, 4] [] (fun x => [(9, vI x.1), (4, vI ((x.2 : Nat) : Int))]) (fun x => []) (fun x => x.1 ≤ l.length ∧ x.2 < 1024 ∧ ofI l 0 = ofI (l.drop x.1) ((x.2 : Nat) : Int)) ?h0 ?_)
  case h0 => exact ⟨Nat.zero_le _, by decide, rfl⟩
  rintro ⟨k, a⟩ ⟨hk, ha, hI⟩
  dsimp only at hk ha hI ⊢
  rcases Nat.lt_or_ge k l.length with hk' | hk'
  · have t1 : decide ((k : Int) < (l.length : Int)) = true := by simp; omega
    rw [ofI_step hk'] at hI
    cases hn : nodeB (nth l k) with
    | false =>
      rw [if_pos hn] at hI
      rw [hI]
      have hn2 : ¬ (0 ≤ nth l k ∧ nth l k < 10) := by intro h; simp [nodeB, h] at hn
      by_cases h0 : nth l k < 0
      · have t2 : decide (nth l k < 0) = true := by simp; omega
        (repeat' (first | (refine nx ?_) | ((with_reducible apply WD_id); first | (refine WD_clr htb ?_))))
        exact gE (.inr rfl) rfl rfl trivial
      · have t2 : decide (nth l k < 0) = false := by simp; omega
        have t3 : decide (nth l k ≥ 10) = true := by simp; omega
        (repeat' (first | (refine nx ?_) | ((with_reducible apply WD_id); first | (refine WD_clr htb ?_))))
        exact gE (.inr rfl) rfl rfl trivial
    | true =>
      have hn2 : 0 ≤ nth l k ∧ nth l k < 10 := by simpa [nodeB] using hn
      have t2 : decide (nth l k < 0) = false := by simp; omega
      have t3 : decide (nth l k ≥ 10) = false := by simp; omega
      rw [if_neg (by simp [hn])] at hI
      cases hh : hasB (a : Int) (nth l k) with
      | true =>
        rw [if_pos hh] at hI
        rw [hI]
        (repeat' (first | (refine nx ?_) | (refine WD_call (by exact rfl) ?_; first | (refine WD_c0 (hasR_m _ _ ?_) ?_; (exact hyp))) | ((with_reducible apply WD_id); first | (refine WD_clr htb ?_))))
        exact gE (.inr rfl) rfl rfl trivial
      | false =>
        rw [if_neg (by simp [hh])] at hI
        have hp := pow_lt (k := (nth l k).toNat) (by omega)
        have e : borI (a : Int) (shlI (nth l k)) = ((a ||| 2 ^ (nth l k).toNat : Nat) : Int) := by
          have e1 := shl_nat (k := (nth l k).toNat) (by omega)
          rw [show (((nth l k).toNat : Nat) : Int) = nth l k by omega] at e1
          rw [e1, bor_nat (by omega) (by omega)]
        (repeat' (first | ((with_reducible apply WD_id); first | (refine WD_eq (shl_step rfl rfl rfl) ?_) | (refine WD_eq (bor_step rfl rfl rfl) ?_)) | (refine nx ?_) | (refine WD_call (by exact rfl) ?_; first | (refine WD_c0 (hasR_m _ _ ?_) ?_; (exact hyp))) | ((with_reducible apply WD_id); first | (refine WD_clr htb ?_))))
        refine ⟨(k + 1, a ||| 2 ^ (nth l k).toNat), (by dsimp only; omega), ⟨hk', or_lt10 ha hp, by rw [hI, e]⟩, ?_⟩
        rw [show (((a ||| 2 ^ (nth l k).toNat : Nat)) : Int) = borI (a : Int) (shlI (nth l k)) from e.symm]
        (exact LeV [])
  · have t1 : decide ((k : Int) < (l.length : Int)) = false := by simp; omega
    rw [List.drop_eq_nil_of_le hk'] at hI
    rw [hI]
    (repeat' (first | (refine nx ?_) | ((with_reducible apply WD_id); first | (refine WD_clr htb ?_))))
    exact gE (.inr rfl) rfl rfl trivial
theorem dep_r : ∀ (d : Nat) (t : Tr) (hd : hT t ≤ d) (hs : sizT t ≤ 1000), FnM Tryz.prog 94 [] [aTr t] (vI (depT t)) [] := by
  intro d
  induction d with
  | zero => intro t hd; cases t; simp [hT] at hd
  | succ d ih =>
    intro t hd hs
    have hl := siz_len t
    have depQ_m : ∀ (x : Tr) (hx : hT x ≤ d ∧ sizT x ≤ 1000), FnM Tryz.prog 94 [] [aTr x] (vI (depT x)) [] := fun x hx => ih x hx.1 hx.2
    have hh : hT t = hL t.is + 1 := by cases t; simp only [hT, Tr.is]
    have hh2 := h_siz t
    have ed : depT t = depL t.is 0 + 1 := by cases t; simp only [depT, Tr.is]
    show FnM _ _ _ [.agg [vI t.k, lI t.ns, .d (.rows 3 (t.is.map rTr))]] _ _
    rw [rTr_p, ed]
    refine FnM.of htb Tryz.func94 rfl rfl rfl rfl rfl fun cx hN h0 => ?_
    (repeat' (first | (refine nx ?_) | ((with_reducible apply WD_id); first | (refine WD_clr htb ?_))))
    (refine WA_forV (t.is.length) [9, 3] [] (fun k => [(9, vI k), (3, vI (depL (t.is.take k) 0))]) (fun k => []) (fun k => True) ?h0 ?_)
    case h0 => trivial
    intro k hk _
    rcases Nat.lt_or_ge k t.is.length with hk' | hk'
    · have t1 : decide ((k : Int) < (t.is.length : Int)) = true := by simp; omega
      have hw := depL_take (a := 0) hk'
      have hm := nth_mem t.is k hk'
      have hx : hT (nth t.is k) ≤ d ∧ sizT (nth t.is k) ≤ 1000 := by have := hT_mem hm; have := siz_mem hm; omega
      (repeat' (first | (refine nx ?_) | (refine WD_call (by exact rfl) ?_; first | (refine WD_c0 (depQ_m _ ?_) ?_; (exact hyp))) | ((with_reducible apply WD_id); first | (refine WD_clr htb ?_))))
      refine ⟨hk', trivial, ?_⟩
      rw [hw]
      (exact LeV [])
    · have t1 : decide ((k : Int) < (t.is.length : Int)) = false := by simp; omega
      have e1 : t.is.take k = t.is := take_all hk'
      rw [e1]
      have hb : 0 ≤ depL t.is 0 ∧ depL t.is 0 ≤ 1001 := by
        have := depL_h t.is 0
        rw [show ((0 : Nat) : Int) = 0 from rfl] at this
        omega
      (repeat' (first | (refine nx ?_) | ((with_reducible apply WD_id); first | (refine WD_clr htb ?_))))
      exact gE (.inr rfl) rfl rfl trivial
theorem siz_r : ∀ (d : Nat) (t : Tr) (hd : hT t ≤ d) (hs : sizT t ≤ 1000), FnM Tryz.prog 93 [] [aTr t] (vI (sizT t)) [] := by
  intro d
  induction d with
  | zero => intro t hd; cases t; simp [hT] at hd
  | succ d ih =>
    intro t hd hs
    have hl := siz_len t
    have sizQ_m : ∀ (x : Tr) (hx : hT x ≤ d ∧ sizT x ≤ 1000), FnM Tryz.prog 93 [] [aTr x] (vI (sizT x)) [] := fun x hx => ih x hx.1 hx.2
    have ed : sizT t = sizL t.is ((t.ns.length : Int) + (t.is.length : Int)) := by cases t; simp only [sizT, Tr.is, Tr.ns]
    show FnM _ _ _ [.agg [vI t.k, lI t.ns, .d (.rows 3 (t.is.map rTr))]] _ _
    rw [rTr_p]
    refine FnM.of htb Tryz.func93 rfl rfl rfl rfl rfl fun cx hN h0 => ?_
    (repeat' (first | (refine nx ?_) | ((with_reducible apply WD_id); first | (refine WD_clr htb ?_))))
    (refine WA_forV (t.is.length) [16, 3] [] (fun k => [(16, vI k), (3, vI (sizL (t.is.take k) ((t.ns.length : Int) + (t.is.length : Int))))]) (fun k => []) (fun k => True) ?h0 ?_)
    case h0 => trivial
    intro k hk _
    rcases Nat.lt_or_ge k t.is.length with hk' | hk'
    · have t1 : decide ((k : Int) < (t.is.length : Int)) = true := by simp; omega
      have hw := sizL_take1 (a := (t.ns.length : Int) + (t.is.length : Int)) hk'
      have hm := nth_mem t.is k hk'
      have hx : hT (nth t.is k) ≤ d ∧ sizT (nth t.is k) ≤ 1000 := by have := hT_mem hm; have := siz_mem hm; omega
      have hb1 := sizL_take (l := t.is) (k := k + 1) (a := (t.ns.length : Int) + (t.is.length : Int))
      have hb2 := sizL_nn (t.is.take k) ((t.ns.length : Int) + (t.is.length : Int))
      have hb3 := siz_nn (nth t.is k)
      rw [hw, ← ed] at hb1
      (repeat' (first | (refine nx ?_) | (refine WD_call (by exact rfl) ?_; first | (refine WD_c0 (sizQ_m _ ?_) ?_; (exact hyp))) | ((with_reducible apply WD_id); first | (refine WD_clr htb ?_))))
      refine ⟨hk', trivial, ?_⟩
      rw [hw]
      (exact LeV [])
    · have t1 : decide ((k : Int) < (t.is.length : Int)) = false := by simp; omega
      have e1 : t.is.take k = t.is := take_all hk'
      rw [e1, ← ed]
      (repeat' (first | (refine nx ?_) | ((with_reducible apply WD_id); first | (refine WD_clr htb ?_))))
      exact gE (.inr rfl) rfl rfl trivial
theorem lev_r : ∀ (d : Nat) (t : Tr) (hd : hT t ≤ d) (hs : sizT t ≤ 1000), FnM Tryz.prog 138 [] [aTr t] (vI (levT t)) [] := by
  intro d
  induction d with
  | zero => intro t hd; cases t; simp [hT] at hd
  | succ d ih =>
    intro t hd hs
    have hl := siz_len t
    have hn := hs
    have levQ_m : ∀ (x : Tr) (hx : hT x ≤ d ∧ sizT x ≤ 1000), FnM Tryz.prog 138 [] [aTr x] (vI (levT x)) [] := fun x hx => ih x hx.1 hx.2
    show FnM _ _ _ [.agg [vI t.k, lI t.ns, .d (.rows 3 (t.is.map rTr))]] _ _
    rw [rTr_p, levT_eq]
    refine FnM.of htb Tryz.func138 rfl rfl rfl rfl rfl fun cx hN h0 => ?_
    by_cases hc1 : t.k < 1
    · have t1 : decide (t.k < 1) = true := by simp; omega
      rw [if_pos (.inl hc1)]
      (repeat' (first | (refine nx ?_) | ((with_reducible apply WD_id); first | (refine WD_clr htb ?_))))
      exact gE (.inr rfl) rfl rfl trivial
    have t1 : decide (t.k < 1) = false := by simp; omega
    by_cases hc2 : (t.ns.length : Int) + (t.is.length : Int) < t.k
    · have t2 : decide (t.k > (t.ns.length : Int) + (t.is.length : Int)) = true := by simp; omega
      rw [if_pos (.inr hc2)]
      (repeat' (first | (refine nx ?_) | ((with_reducible apply WD_id); first | (refine WD_clr htb ?_))))
      exact gE (.inr rfl) rfl rfl trivial
    have t2 : decide (t.k > (t.ns.length : Int) + (t.is.length : Int)) = false := by simp; omega
    rw [if_neg (by omega)]
    (repeat' (first | (refine nx ?_) | ((with_reducible apply WD_id); first | (refine WD_clr htb ?_))))
    (refine WA_forV (t.ns.length) [28] [] (fun k => [(28, vI k)]) (fun k => []) (fun k => idxF (fun k => !nodeB k) 0 t.ns = idxF (fun k => !nodeB k) k (t.ns.drop k)) ?h0 ?_)
    case h0 => rfl
    intro q hq hJ
    rcases Nat.lt_or_ge q t.ns.length with hq' | hq'
    · have t3 : decide ((q : Int) < (t.ns.length : Int)) = true := by simp; omega
      cases hnd : nodeB (nth t.ns q) with
      | false =>
        have hn2 : ¬ (0 ≤ nth t.ns q ∧ nth t.ns q < 10) := by intro h; simp [nodeB, h] at hnd
        have e5 := idx_hit hJ hq' (by simp [hnd])
        have e6 : decide (idxF (fun k => !nodeB k) 0 t.ns ≥ 0) = true := by rw [e5]; simp
        rw [e6, if_pos rfl]
        by_cases h0 : nth t.ns q < 0
        · have t4 : decide (nth t.ns q < 0) = true := by simp; omega
          (repeat' (first | (refine nx ?_) | ((with_reducible apply WD_id); first | (refine WD_clr htb ?_))))
          exact gE (.inr rfl) rfl rfl trivial
        · have t4 : decide (nth t.ns q < 0) = false := by simp; omega
          have t5 : decide (nth t.ns q ≥ 10) = true := by simp; omega
          (repeat' (first | (refine nx ?_) | ((with_reducible apply WD_id); first | (refine WD_clr htb ?_))))
          exact gE (.inr rfl) rfl rfl trivial
      | true =>
        have hn2 : 0 ≤ nth t.ns q ∧ nth t.ns q < 10 := by simpa [nodeB] using hnd
        have t4 : decide (nth t.ns q < 0) = false := by simp; omega
        have t5 : decide (nth t.ns q ≥ 10) = false := by simp; omega
        (repeat' (first | (refine nx ?_) | ((with_reducible apply WD_id); first | (refine WD_clr htb ?_))))
        refine ⟨hq', idx_miss hJ hq' (by simp [hnd]), ?_⟩
        (exact LeV [])
    have t3 : decide ((q : Int) < (t.ns.length : Int)) = false := by simp; omega
    have e5 := idx_end hJ hq'
    rw [if_neg (by rw [e5]; simp)]
    by_cases hc4 : (ofI t.ns 0).2 ≠ 0
    · rw [if_pos hc4]
      have t4 : ((ofI t.ns 0).2 != 0) = true := by simpa using hc4
      (repeat' (first | (refine nx ?_) | (refine WD_call (by exact rfl) ?_; first | (refine WD_c0 (ofR_m _ ?_) ?_; (exact hyp))) | ((with_reducible apply WD_id); first | (refine WD_clr htb ?_))))
      exact gE (.inr rfl) rfl rfl trivial
    · rw [if_neg hc4]
      have t4 : ((ofI t.ns 0).2 != 0) = false := by simpa using hc4
      (repeat' (first | (refine nx ?_) | (refine WD_call (by exact rfl) ?_; first | (refine WD_c0 (ofR_m _ ?_) ?_; (exact hyp))) | ((with_reducible apply WD_id); first | (refine WD_clr htb ?_))))
      (refine WA_forV (t.is.length) [51] [] (fun k => [(51, vI k)]) (fun k => []) (fun k => levL t.is = levL (t.is.drop k)) ?h0 ?_)
      case h0 => rfl
      intro k hk hI
      rcases Nat.lt_or_ge k t.is.length with hk' | hk'
      · have t5 : decide ((k : Int) < (t.is.length : Int)) = true := by simp; omega
        have hm := nth_mem t.is k hk'
        have hx : hT (nth t.is k) ≤ d ∧ sizT (nth t.is k) ≤ 1000 := by have := hT_mem hm; have := siz_mem hm; omega
        rw [levL_step hk'] at hI
        by_cases hy : levT (nth t.is k) ≠ 0
        · rw [if_pos hy] at hI
          have t6 : (levT (nth t.is k) != 0) = true := by simpa using hy
          (repeat' (first | (refine nx ?_) | (refine WD_call (by exact rfl) ?_; first | (refine WD_c0 (levQ_m _ ?_) ?_; (exact hyp))) | ((with_reducible apply WD_id); first | (refine WD_clr htb ?_))))
          exact gE (.inr rfl) rfl (congrArg vI hI.symm) trivial
        · rw [if_neg hy] at hI
          have t6 : (levT (nth t.is k) != 0) = false := by simpa using hy
          (repeat' (first | (refine nx ?_) | (refine WD_call (by exact rfl) ?_; first | (refine WD_c0 (levQ_m _ ?_) ?_; (exact hyp))) | ((with_reducible apply WD_id); first | (refine WD_clr htb ?_))))
          refine ⟨hk', hI, ?_⟩
          (exact LeV [])
      · have t5 : decide ((k : Int) < (t.is.length : Int)) = false := by simp; omega
        rw [List.drop_eq_nil_of_le hk'] at hI
        (repeat' (first | (refine nx ?_) | ((with_reducible apply WD_id); first | (refine WD_clr htb ?_))))
        exact gE (.inr rfl) rfl (congrArg vI hI.symm) trivial
theorem chkR_m (t : Tr) (hs : sizT t ≤ 1000) : FnM Tryz.prog 81 [] [aTr t] (vI (chkT t)) [] := by
  have hh : hT t ≤ hT t ∧ sizT t ≤ 1000 := ⟨Nat.le_refl _, hs⟩
  have depQ_m : ∀ (x : Tr) (hx : hT x ≤ hT t ∧ sizT x ≤ 1000), FnM Tryz.prog 94 [] [aTr x] (vI (depT x)) [] := fun x hx => dep_r (hT t) x hx.1 hx.2
  have sizQ_m : ∀ (x : Tr) (hx : hT x ≤ hT t ∧ sizT x ≤ 1000), FnM Tryz.prog 93 [] [aTr x] (vI (sizT x)) [] := fun x hx => siz_r (hT t) x hx.1 hx.2
  have levQ_m : ∀ (x : Tr) (hx : hT x ≤ hT t ∧ sizT x ≤ 1000), FnM Tryz.prog 138 [] [aTr x] (vI (levT x)) [] := fun x hx => lev_r (hT t) x hx.1 hx.2
  refine FnM.of htb Tryz.func81 rfl rfl rfl rfl rfl fun cx hN h0 => ?_
  by_cases h1 : depT t > 4
  · have t1 : decide (depT t > 4) = true := by simpa using h1
    (repeat' (first | (refine nx ?_) | (refine WD_call (by exact rfl) ?_; first | (refine WD_c0 (depQ_m _ ?_) ?_; (exact hyp))) | ((with_reducible apply WD_id); first | (refine WD_clr htb ?_))))
    exact gE (.inr rfl) rfl (congrArg vI (by unfold chkT; rw [if_pos (.inl h1)])) trivial
  have t1 : decide (depT t > 4) = false := by simpa using h1
  by_cases h2 : sizT t > 200
  · have t2 : decide (sizT t > 200) = true := by simpa using h2
    (repeat' (first | (refine nx ?_) | (refine WD_call (by exact rfl) ?_; first | (refine WD_c0 (depQ_m _ ?_) ?_; (exact hyp)) | (refine WD_c0 (sizQ_m _ ?_) ?_; (exact hyp))) | ((with_reducible apply WD_id); first | (refine WD_clr htb ?_))))
    exact gE (.inr rfl) rfl (congrArg vI (by unfold chkT; rw [if_pos (.inr h2)])) trivial
  have t2 : decide (sizT t > 200) = false := by simpa using h2
  (repeat' (first | (refine nx ?_) | (refine WD_call (by exact rfl) ?_; first | (refine WD_c0 (depQ_m _ ?_) ?_; (exact hyp)) | (refine WD_c0 (sizQ_m _ ?_) ?_; (exact hyp)) | (refine WD_c0 (levQ_m _ ?_) ?_; (exact hyp))) | ((with_reducible apply WD_id); first | (refine WD_clr htb ?_))))
  exact gE (.inr rfl) rfl (congrArg vI (by unfold chkT; rw [if_neg (by omega)])) trivial
theorem declR_m (c : List Mb) (hc : OkC c) : FnM Tryz.prog 56 [] [aCf c] (vI (declN c : Nat)) [] := by
  have hl := hc.len
  refine FnM.of htb Tryz.func56 rfl rfl rfl rfl rfl fun cx hN h0 => ?_
  (repeat' (first | (refine nx ?_) | ((with_reducible apply WD_id); first | (refine WD_clr htb ?_))))
  (refine WA_forV (c.length) [9, 3] [] (fun k => [(9, vI k), (3, vI (declTo c k : Nat))]) (fun k => []) (fun k => True) ?h0 ?_)
  case h0 => trivial
  intro k hk _
  have hd := declTo_lt c k (by omega)
  rcases Nat.lt_or_ge k c.length with hk' | hk'
  · have t1 : decide ((k : Int) < (c.length : Int)) = true := by simp; omega
    have t2 : decide ((k : Int) < 10) = true := by simp; omega
    have hp := pow_lt (k := k) (by omega)
    cases hx : (nth c k).decl with
    | true =>
      have hst : declTo c (k + 1) = declTo c k ||| 2 ^ k := by rw [declTo, if_pos hx]
      (repeat' (first | ((with_reducible apply WD_id); first | (refine WD_eq (shlN_step rfl rfl rfl) ?_) | (refine WD_eq (borN_step rfl rfl rfl) ?_)) | (refine nx ?_) | ((with_reducible apply WD_id); first | (refine WD_clr htb ?_))))
      refine ⟨hk', trivial, ?_⟩
      rw [hst]
      (exact LeV [])
    | false =>
      have hst : declTo c (k + 1) = declTo c k := by rw [declTo, if_neg (by simp [hx])]
      (repeat' (first | (refine nx ?_) | ((with_reducible apply WD_id); first | (refine WD_clr htb ?_))))
      refine ⟨hk', trivial, ?_⟩
      rw [hst]
      (exact LeV [])
  · have t1 : decide ((k : Int) < (c.length : Int)) = false := by simp; omega
    obtain rfl : k = c.length := by omega
    (repeat' (first | (refine nx ?_) | ((with_reducible apply WD_id); first | (refine WD_clr htb ?_))))
    exact gE (.inr rfl) rfl rfl trivial
end Go.Proofs.YtdhogcklnehdhaaGreatDoor
namespace Go.Proofs.YtdhogcklnehdhaaGreatDoor
set_option linter.unusedSimpArgs false
set_option linter.unusedVariables false
set_option linter.unnecessarySimpa false
set_option linter.unusedSectionVars false
set_option maxRecDepth 100000
open Go Go.RowKit Go.Am Go.Proofs.Grow
abbrev tpB (s : Sc) : AO := .box 80 [lI s.l, vI s.i]
theorem tm_neg (x : Int) {k : Int} (h : 1 ≤ k) (hn : x.tmod k < 0) : x.tmod k + k = x % k := by
  have hb := tmod_bd x h
  have e3 := tmod_emod x h
  generalize x.tmod k = z at hb e3 hn ⊢
  rw [← e3, Int.tmod_eq_of_lt (by omega) (by omega)]
theorem tm_pos (x : Int) {k : Int} (h : 1 ≤ k) (hn : ¬ x.tmod k < 0) : x.tmod k = x % k := by
  have hb := tmod_bd x h
  have e3 := tmod_emod x h
  generalize x.tmod k = z at hb e3 hn ⊢
  rw [← e3, Int.tmod_eq_emod_of_nonneg (by omega), Int.add_emod_right, Int.emod_eq_of_lt (by omega) (by omega)]
theorem tN_m (s : Sc) (k : Int) (hs : s.ok) (h1 : 1 ≤ k) (h2 : k ≤ 1000000) : FnM Tryz.prog 33 [(9000, tpB s)] [.ptr 9000 0, vI k] (vI (s.n k)) [(9000, tpB (s.x k))] := by
  obtain ⟨hs1, hs2⟩ := hs
  refine FnM.of htb Tryz.func33 rfl rfl rfl rfl rfl fun cx hN h0 => ?_
  by_cases hi : s.i < s.l.length
  case neg =>
    have e1 : s.n k = 0 := by unfold Sc.n; rw [if_neg (by omega)]
    have e2 : s.x k = s := by unfold Sc.x; rw [if_neg (by omega)]
    rw [e1, e2]
    have t1 : decide ((s.i : Int) ≥ (s.l.length : Int)) = true := by simp only [decide_eq_true_eq]; omega
    (repeat' (first | ((with_reducible apply WD_id); first | (refine WD_sum ?_) | (refine WD_nxt htb (by exact rfl) ?_) | (refine WD_idx htb ?_) | (refine WD_rem ?_)) | (refine ct ?_) | (with_reducible apply WA_block)))
    exact gE (.inr rfl) rfl rfl ⟨rfl, trivial⟩
  have t1 : decide ((s.i : Int) ≥ (s.l.length : Int)) = false := by simp only [decide_eq_false_iff_not]; omega
  have hb := tmod_bd (nth s.l s.i) h1
  have e1 : s.n k = nth s.l s.i % k := by unfold Sc.n; rw [if_pos ⟨hi, h1⟩]
  have e2 : s.x k = ⟨s.l, s.i + 1⟩ := by unfold Sc.x; rw [if_pos ⟨hi, h1⟩]
  rw [e1, e2]
  by_cases hn : (nth s.l s.i).tmod k < 0
  · have t2 : decide ((nth s.l s.i).tmod k < 0) = true := by simpa using hn
    have e4 := tm_neg (nth s.l s.i) h1 hn
    rw [← e4]
    (repeat' (first | ((with_reducible apply WD_id); first | (refine WD_sum ?_) | (refine WD_nxt htb (by exact rfl) ?_) | (refine WD_idx htb ?_) | (refine WD_rem ?_)) | (refine ct ?_) | (with_reducible apply WA_block)))
    exact gE (.inr rfl) rfl rfl ⟨rfl, trivial⟩
  · have t2 : decide ((nth s.l s.i).tmod k < 0) = false := by simpa using hn
    have e4 := tm_pos (nth s.l s.i) h1 hn
    rw [← e4]
    (repeat' (first | ((with_reducible apply WD_id); first | (refine WD_sum ?_) | (refine WD_nxt htb (by exact rfl) ?_) | (refine WD_idx htb ?_) | (refine WD_rem ?_)) | (refine ct ?_) | (with_reducible apply WA_block)))
    exact gE (.inr rfl) rfl rfl ⟨rfl, trivial⟩
theorem tR_m (s : Sc) (a b : Int) (hs : s.ok) (h1 : 0 ≤ a) (h2 : a ≤ b) (h3 : b ≤ 1000) : FnM Tryz.prog 76 [(9000, tpB s)] [.ptr 9000 0, vI a, vI b] (vI (a + s.n (b - a + 1))) [(9000, tpB (s.x (b - a + 1)))] := by
  refine FnM.of htb Tryz.func76 rfl rfl rfl rfl rfl fun cx hN h0 => ?_
  have hb := s.n_bd (k := b - a + 1) (by omega)
  (repeat' (first | ((with_reducible apply WD_id); first | (refine WD_sum ?_) | (refine WD_nxt htb (by exact rfl) ?_) | (refine WD_call (by exact rfl) ?_; first | (refine WD_cM (tN_m _ _ ?_ ?_ ?_) ?_; (exact hyp); (exact hyp); (exact hyp)))) | (refine ct ?_) | (with_reducible apply WA_block)))
  exact gE (.inr rfl) rfl rfl ⟨rfl, trivial⟩
theorem tP_m (s : Sc) (l : List Int) (hs : s.ok) (h1 : 1 ≤ l.length) (h2 : l.length ≤ 1000) : FnM Tryz.prog 34 [(9000, tpB s)] [.ptr 9000 0, lI l] (vI (nth l (s.n l.length).toNat)) [(9000, tpB (s.x l.length))] := by
  refine FnM.of htb Tryz.func34 rfl rfl rfl rfl rfl fun cx hN h0 => ?_
  have hb := s.n_bd (k := l.length) (by omega)
  rw [← List.length_map (f := rI)] at *
  (repeat' (first | ((with_reducible apply WD_id); first | (refine WD_nxt htb (by exact rfl) ?_) | (refine WD_call (by exact rfl) ?_; first | (refine WD_cM (tN_m _ _ ?_ ?_ ?_) ?_; (exact hyp); (exact hyp); (exact hyp))) | (refine WD_idx htb ?_)) | (refine ct ?_) | (with_reducible apply WA_block)))
  exact gE (.inr rfl) rfl rfl ⟨rfl, trivial⟩
theorem tNew_m (l : List Int) : FnM Tryz.prog 5 [] [lI l] (.ptr 9000 0) [(9000, tpB ⟨l.take 400, 0⟩)] := by
  refine FnM.of htb Tryz.func5 rfl rfl rfl rfl rfl fun cx hN h0 => ?_
  (repeat' (first | ((with_reducible apply WD_id); first | (refine WD_nxt htb (by exact rfl) ?_) | (refine WD_slc htb ?_)) | (refine ct ?_) | (with_reducible apply WA_block)))
  have e : List.drop 0 (List.take (if (400 : Int) < (l.length : Int) then (400 : Int) else (l.length : Int)).toNat (List.map rI l)) = (l.take 400).map rI := by
    rw [List.drop_zero, List.map_take]
    split
    · rfl
    · rw [List.take_of_length_le (by simp), List.take_of_length_le (by simp; omega)]
  rw [e]
  (exact glV [(2, .ptr 9000 0)] [(9000, tpB ⟨l.take 400, 0⟩)] (LeV [(9000, 9)]))
def swpN (l : List Nat) (i k : Nat) : List Nat := (l.set i (nth l k)).set k (nth l i)
def ordT : Nat → Sc → List Nat → List Nat × Sc
  | 0, s, l => (l, s)
  | i + 1, s, l => ordT i (s.x ((i : Int) + 2)) (swpN l (i + 1) (s.n ((i : Int) + 2)).toNat)
def ordF (s : Sc) (n : Nat) : List Nat × Sc := ordT (n - 1) s (List.range n)
theorem swpN_mem {l : List Nat} {i k n : Nat} (hi : i < l.length) (hk : k < l.length) (h : ∀ x ∈ l, x < n) : ∀ x ∈ swpN l i k, x < n := by
  intro x hx
  unfold swpN at hx
  rcases List.mem_or_eq_of_mem_set hx with hx | rfl
  · rcases List.mem_or_eq_of_mem_set hx with hx | rfl
    · exact h x hx
    · exact h _ (nth_mem l k hk)
  · exact h _ (nth_mem l i hi)
theorem swpN_len (l : List Nat) (i k : Nat) : (swpN l i k).length = l.length := by simp [swpN]
theorem ordT_spec {n : Nat} : ∀ (i : Nat) (s : Sc) (l : List Nat), s.ok → l.length = n → i < n → (∀ x ∈ l, x < n) → (ordT i s l).1.length = n ∧ (∀ x ∈ (ordT i s l).1, x < n) ∧ (ordT i s l).2.ok
  | 0, s, l, hs, hl, _, h => ⟨hl, h, hs⟩
  | i + 1, s, l, hs, hl, hi, h => by
    have hb := s.n_bd (k := (i : Int) + 2) (by omega)
    exact ordT_spec i _ _ (Sc.ok_x hs _) (by rw [swpN_len, hl]) (by omega) (swpN_mem (by omega) (by omega) h)
theorem ordF_spec {s : Sc} {n : Nat} (hs : s.ok) (hn : 1 ≤ n) : (ordF s n).1.length = n ∧ (∀ x ∈ (ordF s n).1, x < n) ∧ (ordF s n).2.ok :=
  ordT_spec (n - 1) s _ hs (by simp) (by omega) (by simp)
theorem tO_m (s : Sc) (n : Nat) (hs : s.ok) (h1 : 1 ≤ n) (h2 : n ≤ 10) : FnM Tryz.prog 180 [(9000, tpB s)] [.ptr 9000 0, vI (n : Int)] (lN (ordF s n).1) [(9000, tpB (ordF s n).2)] := by
  refine FnM.of htb Tryz.func180 rfl rfl rfl rfl rfl fun cx hN h0 => ?_
  (repeat' (first | ((with_reducible apply WD_id); first | (refine WD_sum ?_) | (refine WD_nxt htb (by exact rfl) ?_) | (refine WD_idxo htb ?_) | (refine WD_lde1 htb ?_) | (refine WD_ste htb ?_) | (refine WD_ap htb ?_)) | (refine ct ?_) | (with_reducible apply WA_block)))
  refine WA_le (Le_nilT 60 5 3 1 rfl rfl) ?_
  (refine WA_forV (n) [6, 5] [60] (fun k => [(6, vI k), (5, .own 60)]) (fun k => [(60, .arr 3 1 ((List.range k).map rN))]) (fun k => True) ?h0 ?_)
  case h0 => trivial
  intro k hk _
  rcases Nat.lt_or_ge k n with hk' | hk'
  · have t1 : decide ((k : Int) < (n : Int)) = true := by simp; omega
    have hlr : (List.range k).length ≤ 10 := by simp; omega
    (repeat' (first | ((with_reducible apply WD_id); first | (refine WD_sum ?_) | (refine WD_nxt htb (by exact rfl) ?_) | (refine WD_idxo htb ?_) | (refine WD_lde1 htb ?_) | (refine WD_ste htb ?_) | (refine WD_ap htb ?_)) | (refine ct ?_) | (with_reducible apply WA_block)))
    refine ⟨hk', trivial, ?_⟩
    rw [List.range_succ, List.map_append]
    (exact LeV [(60, 17)])
  have t1 : decide ((k : Int) < (n : Int)) = false := by simp; omega
  obtain rfl : k = n := by omega
  (repeat' (first | ((with_reducible apply WD_id); first | (refine WD_sum ?_) | (refine WD_nxt htb (by exact rfl) ?_) | (refine WD_idxo htb ?_) | (refine WD_lde1 htb ?_) | (refine WD_ste htb ?_) | (refine WD_ap htb ?_)) | (refine ct ?_) | (with_reducible apply WA_block)))
  rw [show (k : Int) - 1 = ((k - 1 : Nat) : Int) by omega]
  (refine WA_anyV (α := Nat × Sc × List Nat) (fun x => x.1) ((k - 1, s, List.range k)) [7] [9000, 60] (fun x => [(7, vI ((x.1 : Nat) : Int))]) (fun x => [(9000, tpB x.2.1), (60, .arr 3 1 (x.2.2.map rN))]) (fun x => x.1 < k ∧ x.2.1.ok ∧ x.2.2.length = k ∧ ordF s k = ordT x.1 x.2.1 x.2.2) ?h0 ?_)
  case h0 => exact ⟨by omega, hs, by simp, rfl⟩
  rintro ⟨i, s1, l⟩ ⟨hi, hs1, hl, hI⟩
  dsimp only at hi hs1 hl hI ⊢
  rw [hI]
  cases i with
  | zero =>
    have t2 : decide (((0 : Nat) : Int) > 0) = false := by simp
    (repeat' (first | ((with_reducible apply WD_id); first | (refine WD_sum ?_) | (refine WD_nxt htb (by exact rfl) ?_) | (refine WD_idxo htb ?_) | (refine WD_lde1 htb ?_) | (refine WD_ste htb ?_) | (refine WD_ap htb ?_)) | (refine ct ?_) | (with_reducible apply WA_block)))
    (exact glV [(4, lN l)] [(9000, tpB s1)] (LeV []))
  | succ i =>
    have t2 : decide (((i + 1 : Nat) : Int) > 0) = true := by simp <;> omega
    have hb := s1.n_bd (k := (i : Int) + 2) (by omega)
    have hs2 := Sc.ok_x hs1 ((i : Int) + 2)
    obtain ⟨q, hq⟩ : ∃ q : Nat, s1.n ((i : Int) + 2) = (q : Int) := ⟨(s1.n ((i : Int) + 2)).toNat, by omega⟩
    have hqk : q < l.length := by omega
    have hil : i + 1 < l.length := by omega
    have e0 : ((i + 1 : Nat) : Int) + 1 = (i : Int) + 2 := by omega
    have tNX_m : FnM Tryz.prog 33 [(9000, tpB s1)] [.ptr 9000 0, vI (((i + 1 : Nat) : Int) + 1)] (vI (q : Int)) [(9000, tpB (s1.x ((i : Int) + 2)))] := by
      have := tN_m s1 ((i : Int) + 2) hs1 (by omega) (by omega)
      rw [hq] at this
      rw [e0]; exact this
    have e5 : swpN l (i + 1) (s1.n ((i : Int) + 2)).toNat = swpN l (i + 1) q := by rw [hq]; rfl
    have hrow : ((l.map rN).set (i + 1) (rN (nth l q)))[q]? = some (rN (nth (l.set (i + 1) (nth l q)) q)) := by
      rw [show (l.map rN).set (i + 1) (rN (nth l q)) = (l.set (i + 1) (nth l q)).map rN by rw [List.map_set]]
      exact rowGet _ _ (by simp; omega)
    (repeat' (first | ((with_reducible apply WD_id); first | (refine WD_sum ?_) | (refine WD_nxt htb (by exact rfl) ?_) | (refine WD_call (by exact rfl) ?_; first | (refine WD_cM (tNX_m) ?_)) | (refine WD_idxo htb ?_) | (refine WD_lde1 htb ?_) | (refine WD_ste htb ?_) | (refine WD_ap htb ?_)) | (refine ct ?_) | (with_reducible apply WA_block)))
    refine WD_ste htb ?_ (hr := hrow)
    (repeat' (first | ((with_reducible apply WD_id); first | (refine WD_sum ?_) | (refine WD_nxt htb (by exact rfl) ?_) | (refine WD_idxo htb ?_) | (refine WD_lde1 htb ?_) | (refine WD_ste htb ?_) | (refine WD_ap htb ?_)) | (refine ct ?_) | (with_reducible apply WA_block)))
    refine ⟨(i, s1.x ((i : Int) + 2), swpN l (i + 1) q), by dsimp only; omega, ⟨by dsimp only; omega, hs2, by rw [swpN_len, hl], by rw [ordT, e5]⟩, ?_⟩
    rw [show (swpN l (i + 1) q).map rN = ((l.map rN).set (i + 1) (rN (nth l q))).set q (rN (nth l (i + 1))) by simp [swpN, List.map_set]]
    (exact LeV [])
end Go.Proofs.YtdhogcklnehdhaaGreatDoor
namespace Go.Proofs.YtdhogcklnehdhaaGreatDoor
set_option linter.unusedSimpArgs false
set_option linter.unusedVariables false
set_option linter.unnecessarySimpa false
set_option linter.unusedSectionVars false
set_option maxRecDepth 100000
open Go Go.RowKit Go.Am Go.Proofs.Grow
def rgN (s : Sc) (b : Nat) : Nat := (s.n b).toNat + 1
theorem rgN_bd {s : Sc} {b : Nat} (h : 1 ≤ b) : 1 ≤ rgN s b ∧ rgN s b ≤ b := by
  have := s.n_bd (k := b) (by omega)
  unfold rgN; omega
theorem tRg_m (s : Sc) (b : Nat) (e : Int) (hs : s.ok) (h1 : 1 ≤ b) (h2 : b ≤ 1000) (he : e = (b : Int)) : FnM Tryz.prog 76 [(9000, tpB s)] [.ptr 9000 0, vI 1, vI e] (vI ((rgN s b : Nat) : Int)) [(9000, tpB (s.x b))] := by
  subst he
  have hb := s.n_bd (k := b) (by omega)
  have := tR_m s 1 b hs (by omega) (by omega) (by omega)
  rw [show (b : Int) - 1 + 1 = b by omega, show (1 : Int) + s.n b = ((rgN s b : Nat) : Int) by unfold rgN; omega] at this
  exact this
theorem castI (l : List Nat) : (l.map fun x : Nat => (x : Int)).map rI = l.map rN := by rw [List.map_map]; rfl
theorem aTr_cast (k : Int) (m : List Nat) (is : List Tr) : aTr (.mk k (m.map fun x : Nat => (x : Int)) is) = .agg [vI k, lN m, lTr is] := by
  show AV.agg [vI k, .d (.rows 1 ((m.map fun x : Nat => (x : Int)).map rI)), lTr is] = _
  rw [castI]
/-- A trust of one level. -/
def tr1F (s : Sc) (n : Nat) : Tr × Sc :=
  let p := ordF s n
  let r := rgN p.2 n
  let s2 := p.2.x n
  (.mk ((rgN s2 r : Nat) : Int) ((p.1.take r).map fun x : Nat => (x : Int)) [], s2.x r)
theorem tr1_m (s : Sc) (n : Nat) (hs : s.ok) (h1 : 1 ≤ n) (h2 : n ≤ 5) : FnM Tryz.prog 136 [(9000, tpB s)] [.ptr 9000 0, vI (n : Int), vI 1] (aTr (tr1F s n).1) [(9000, tpB (tr1F s n).2)] := by
  obtain ⟨ho1, ho2, ho3⟩ := ordF_spec hs h1
  unfold tr1F
  generalize hp : ordF s n = p at *
  obtain ⟨l, s1⟩ := p
  dsimp only at ho1 ho2 ho3 ⊢
  have hr := rgN_bd (s := s1) h1
  have hs2 := Sc.ok_x ho3 (n : Int)
  have rgA_m := tRg_m s1 n (if (5 : Int) < (n : Int) then 5 else (n : Int)) ho3 h1 (by omega) (by rw [if_neg (by omega)])
  have hrl : (l.take (rgN s1 n)).length = rgN s1 n := by rw [List.length_take]; omega
  have rgB_m := tRg_m (s1.x n) (rgN s1 n) ((((l.take (rgN s1 n)).map rN).length : Int) + 0) hs2 hr.1 (by omega) (by rw [List.length_map]; omega)
  generalize hrr : rgN s1 n = r at *
  have hlr : r ≤ (l.map rN).length := by rw [List.length_map]; omega
  refine FnM.of htb Tryz.func136 rfl rfl rfl rfl rfl fun cx hN h0 => ?_
  have tOX : FnM Tryz.prog 180 [(9000, tpB s)] [.ptr 9000 0, vI (n : Int)] (lN l) [(9000, tpB s1)] := by
    have := tO_m s n hs h1 (by omega)
    rw [hp] at this; exact this
  have tOX_m := tOX
  (repeat' (first | ((with_reducible apply WD_id); first | (refine WD_sum ?_) | (refine WD_nxt htb (by exact rfl) ?_) | (refine WD_call (by exact rfl) ?_; first | (refine WD_cM (tOX_m) ?_) | (refine WD_cM (rgA_m) ?_)) | (refine WD_idx htb ?_) | (refine WD_ap htb ?_) | (refine WD_slc htb ?_)) | (refine ct ?_) | (with_reducible apply WA_block)))
  rw [show List.drop 0 (List.take r (List.map rN l)) = (l.take r).map rN by rw [List.drop_zero, List.map_take], List.length_map]
  refine WA_le (Le_nilM 60 7 1 3 1 rfl rfl rfl rfl) ?_
  generalize hm : l.take r = m at *
  (refine WA_forV (m.length) [22] [7, 60, 9000] (fun k => [(22, vI k)]) (fun k => [(9000, tpB (s1.x n)), (7, .box 45 [vI 0, .own 60, .d (.v (.slice none 0 0))]), (60, .arr 3 1 ((m.take k).map rN))]) (fun k => True) ?h0 ?_)
  case h0 => trivial
  intro k hk _
  have hlk : (m.take k).length ≤ k := by rw [List.length_take]; omega
  rcases Nat.lt_or_ge k m.length with hk' | hk'
  · have t1 : decide ((k : Int) < (m.length : Int)) = true := by simp; omega
    have hw : (m.take (k + 1)) = m.take k ++ [nth m k] := by rw [List.take_succ_eq_append_getElem hk', nth_getElem _ _ hk']
    (repeat' (first | ((with_reducible apply WD_id); first | (refine WD_sum ?_) | (refine WD_nxt htb (by exact rfl) ?_) | (refine WD_idx htb ?_) | (refine WD_ap htb ?_) | (refine WD_slc htb ?_)) | (refine ct ?_) | (with_reducible apply WA_block)))
    refine ⟨hk', trivial, ?_⟩
    rw [hw, List.map_append, List.map_cons, List.map_nil]
    (exact LeV [(60, 30)])
  · have t1 : decide ((k : Int) < (m.length : Int)) = false := by simp; omega
    have e1 : m.take k = m := take_all hk'
    rw [e1]
    have hml : (m.map rN).length ≤ 10 := by rw [List.length_map]; omega
    (repeat' (first | ((with_reducible apply WD_id); first | (refine WD_sum ?_) | (refine WD_nxt htb (by exact rfl) ?_) | (refine WD_call (by exact rfl) ?_; first | (refine WD_cM (rgB_m) ?_)) | (refine WD_idx htb ?_) | (refine WD_ap htb ?_) | (refine WD_slc htb ?_)) | (refine ct ?_) | (with_reducible apply WA_block)))
    rw [aTr_cast]
    (exact glV [(6, .ptr 6 0)] [(6, .box 45 [vI ((rgN (s1.x n) r : Nat) : Int), lN m, .d (.rows 3 [])]), (9000, tpB ((s1.x n).x r))] (LeV []))
def innF : Nat → Sc → Nat → List Tr → List Tr × Sc
  | 0, s, _, o => (o, s)
  | i + 1, s, n, o => innF i (tr1F s n).2 n (o ++ [(tr1F s n).1])
def picks : List Int := [0, 0, 1, 1, 2, 3]
/-- A trust of two levels. -/
def tr2F (s : Sc) (n : Nat) : Tr × Sc :=
  let p := ordF s n
  let r := rgN p.2 n
  let s2 := p.2.x n
  let i := nth picks (s2.n 6).toNat
  let q := innF i.toNat (s2.x 6) n []
  if q.1.length = 0 then (.mk ((rgN q.2 r : Nat) : Int) ((p.1.take r).map fun x : Nat => (x : Int)) [], q.2.x r)
  else if q.2.n 3 = 0 then (.mk ((rgN (q.2.x 3) q.1.length : Nat) : Int) [] q.1, (q.2.x 3).x q.1.length)
  else (.mk ((rgN (q.2.x 3) (r + q.1.length) : Nat) : Int) ((p.1.take r).map fun x : Nat => (x : Int)) q.1, (q.2.x 3).x (r + q.1.length : Nat))
/-- Trusts over few nodes, of few levels. -/
structure GoodT (n : Nat) (t : Tr) : Prop where
  ns : ∀ x ∈ t.ns, 0 ≤ x ∧ x < (n : Int)
  nl : t.ns.length ≤ 5
  il : t.is.length ≤ 3
  inn : ∀ y ∈ t.is, y.is = [] ∧ y.ns.length ≤ 5 ∧ ∀ x ∈ y.ns, 0 ≤ x ∧ x < (n : Int)
theorem tr1_spec {s : Sc} {n : Nat} (hs : s.ok) (h1 : 1 ≤ n) (h2 : n ≤ 5) : GoodT n (tr1F s n).1 ∧ (tr1F s n).1.is = [] ∧ (tr1F s n).2.ok := by
  obtain ⟨ho1, ho2, ho3⟩ := ordF_spec hs h1
  unfold tr1F
  refine ⟨⟨fun x hx => ?_, ?_, by simp [Tr.is], fun y hy => by simp [Tr.is] at hy⟩, rfl, Sc.ok_x (Sc.ok_x ho3 _) _⟩
  · simp only [Tr.ns, List.mem_map] at hx
    obtain ⟨y, hy, rfl⟩ := hx
    have := ho2 y (List.mem_of_mem_take hy)
    omega
  · simp only [Tr.ns, List.length_map, List.length_take]; omega
theorem inn_spec {n : Nat} (h1 : 1 ≤ n) (h2 : n ≤ 5) : ∀ (i : Nat) (s : Sc) (o : List Tr), s.ok → (∀ y ∈ o, y.is = [] ∧ y.ns.length ≤ 5 ∧ ∀ x ∈ y.ns, 0 ≤ x ∧ x < (n : Int)) →
    (innF i s n o).1.length = o.length + i ∧ (∀ y ∈ (innF i s n o).1, y.is = [] ∧ y.ns.length ≤ 5 ∧ ∀ x ∈ y.ns, 0 ≤ x ∧ x < (n : Int)) ∧ (innF i s n o).2.ok
  | 0, s, o, hs, h => ⟨rfl, h, hs⟩
  | i + 1, s, o, hs, h => by
    obtain ⟨g1, g2, g3⟩ := tr1_spec hs h1 h2
    have := inn_spec h1 h2 i (tr1F s n).2 (o ++ [(tr1F s n).1]) g3 (fun y hy => by
      rcases List.mem_append.1 hy with hy | hy
      · exact h y hy
      · obtain rfl : y = (tr1F s n).1 := by simpa using hy
        exact ⟨g2, g1.nl, g1.ns⟩)
    simp only [List.length_append, List.length_cons, List.length_nil] at this
    exact ⟨by rw [innF]; omega, this.2.1, this.2.2⟩
theorem pick_bd {k : Nat} (h : k < 6) : 0 ≤ nth picks k ∧ nth picks k ≤ 3 := by
  obtain rfl | rfl | rfl | rfl | rfl | rfl : k = 0 ∨ k = 1 ∨ k = 2 ∨ k = 3 ∨ k = 4 ∨ k = 5 := by omega
  all_goals decide
end Go.Proofs.YtdhogcklnehdhaaGreatDoor
