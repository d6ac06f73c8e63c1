/- Reckoned calls: the meeting of three members. -/
import Derived.Test.YtbfafljcclfeaaaGreatDoorToK
import Derived.Test.YtbfafljcclfeaaaGreatDoorToEX
import Derived.Test.YtbfafljcclfeaaaGreatDoorToEY
namespace Go.Proofs.YtbfafljcclfeaaaGreatDoor
set_option linter.unusedSimpArgs false
set_option linter.unusedVariables false
set_option linter.unnecessarySimpa false
set_option linter.unusedSectionVars false
set_option maxRecDepth 100000
open Go Go.RowKit Go.Am Go.Proofs.Grow

def stL : List (List AV × Res) := [([mt0, xsd 0 0], (.tup [.agg [.d (xl), .d (xn 0), .d (xn 0)], xv 1], [])), ([mt0, xsd 0 1], (.tup [mt1, xv 0], [])), ([mt1, xsd 0 2], (.tup [mt2, xv 0], [])), ([mt2, xsd 1 0], (.tup [mt3, xv 0], [])), ([mt3, xsd 1 1], (.tup [.agg [.d (xl), .d (xn 0), .d (xn 0)], xv 1], [])), ([mt3, xsd 1 2], (.tup [mt4, xv 0], [])), ([mt4, xsd 2 0], (.tup [mt5, xv 0], [])), ([mt5, xsd 2 1], (.tup [mt6, xv 0], [])), ([mt6, xsd 2 2], (.tup [.agg [.d (xl), .d (xn 0), .d (xn 0)], xv 1], [])), ([mt6, xsd 0 0], (.tup [.agg [.d (xl), .d (xn 0), .d (xn 0)], xv 1], [])), ([mt6, xsd 0 1], (.tup [mt7, xv 0], [])), ([mt7, xsd 0 2], (.tup [mt8, xv 0], [])), ([mt8, xsd 1 0], (.tup [mt9, xv 0], [])), ([mt9, xsd 1 1], (.tup [.agg [.d (xl), .d (xn 0), .d (xn 0)], xv 1], [])), ([mt9, xsd 1 2], (.tup [mt10, xv 0], [])), ([mt10, xsd 2 0], (.tup [.agg [.d (xl), .d (xn 0), .d (xn 0)], xv 9], [])), ([mt10, xsd 2 1], (.tup [.agg [.d (xl), .d (xn 0), .d (xn 0)], xv 9], [])), ([mt10, xsd 2 2], (.tup [.agg [.d (xl), .d (xn 0), .d (xn 0)], xv 1], [])), ([mt10, xsd 0 0], (.tup [.agg [.d (xl), .d (xn 0), .d (xn 0)], xv 1], [])), ([mt10, xsd 0 1], (.tup [.agg [.d (xl), .d (xn 0), .d (xn 0)], xv 9], [])), ([mt10, xsd 0 2], (.tup [.agg [.d (xl), .d (xn 0), .d (xn 0)], xv 9], [])), ([mt10, xsd 1 0], (.tup [.agg [.d (xl), .d (xn 0), .d (xn 0)], xv 9], [])), ([mt10, xsd 1 1], (.tup [.agg [.d (xl), .d (xn 0), .d (xn 0)], xv 1], [])), ([mt10, xsd 1 2], (.tup [.agg [.d (xl), .d (xn 0), .d (xn 0)], xv 9], []))]
theorem stL_ok : EntOK Tryz.prog 68 stL := .cons (okE_fn (cfX_ok t0_ok) st0_00) (.cons (okE_fn (cfX_ok t0_ok) st0_01) (.cons (okE_fn (cfX_ok t0_ok) st1_02) (.cons (okE_fn (cfX_ok t0_ok) st2_10) (.cons (okE_fn (cfX_ok t0_ok) st3_11) (.cons (okE_fn (cfX_ok t0_ok) st3_12) (.cons (okE_fn (cfX_ok t0_ok) st4_20) (.cons (okE_fn (cfX_ok t0_ok) st5_21) (.cons (okE_fn (cfX_ok t0_ok) st6_22) (.cons (okE_fn (cfX_ok t0_ok) st6_00) (.cons (okE_fn (cfX_ok t0_ok) st6_01) (.cons (okE_fn (cfX_ok t0_ok) st7_02) (.cons (okE_fn (cfX_ok t0_ok) st8_10) (.cons (okE_fn (cfX_ok t0_ok) st9_11) (.cons (okE_fn (cfX_ok t0_ok) st9_12) (.cons (okE_fn (cfX_ok t0_ok) st10_20) (.cons (okE_fn (cfX_ok t0_ok) st10_21) (.cons (okE_fn (cfX_ok t0_ok) st10_22) (.cons (okE_fn (cfX_ok t0_ok) st10_00) (.cons (okE_fn (cfX_ok t0_ok) st10_01) (.cons (okE_fn (cfX_ok t0_ok) st10_02) (.cons (okE_fn (cfX_ok t0_ok) st10_10) (.cons (okE_fn (cfX_ok t0_ok) st10_11) (.cons (okE_fn (cfX_ok t0_ok) st10_12) (.nil _ _))))))))))))))))))))))))
def t1 : Tbl := (68, stL) :: t0
theorem t1_ok : TblOK Tryz.prog t1 := .cons stL_ok t0_ok
def xply (k : Nat) : List D := [xn 1, xn k, xn 0, xn 1, xn 1, xn 0, xl, xl, xn 0, xn 0, xn 0, xl, xl, xl, xl]
def rRun : Res := (.tup [mt0, .own 6555, xv 0], [(6555, .arr 30 1 [[xn 0], [xn 0]])])
theorem e38 : okE (runF (cfX t1) 60 38 [] [xc3, xv 0, .d (.rows 15 [xply 0, xply 2])] 0) rRun = true := by kernel_rfl
theorem e39 : okE (runF (cfX t1) 60 39 [] [mt0] 0) (.tup [mt10, xv 0], []) = true := by kernel_rfl
def t2 : Tbl := [(36, [([xsrc], (.tup [xc3, xv 0, xv 0], []))]), (37, [([xc3], (.tup [.own 5168, xv 0], [(5168, .arr 3 1 [[xn 3], [xn 5], [xn 6]])]))]), (38, [([xc3, xv 0, .d (.rows 15 [xply 0, xply 2])], rRun)]), (39, [([mt0], (.tup [mt10, xv 0], []))])]
theorem t2_ok : TblOK Tryz.prog t2 := .cons (.cons (okE_fn (cfX_ok t0_ok) e36) (.nil _ _)) (.cons (.cons (okE_fn (cfX_ok t0_ok) e37) (.nil _ _)) (.cons (.cons (okE_fn (cfX_ok t1_ok) e38) (.nil _ _)) (.cons (.cons (okE_fn (cfX_ok t1_ok) e39) (.nil _ _)) (.nil _))))
theorem e14 : okE (runF (cfX t2) 60 14 [] [] 0) (.d xT, []) = true := by kernel_rfl
/-- The members of the assembly agree. -/
theorem awake_m : FnM Tryz.prog 14 [] [] (vB true) [] := okE_fn (cfX_ok t2_ok) e14
end Go.Proofs.YtbfafljcclfeaaaGreatDoor
