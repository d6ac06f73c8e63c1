/- Reckoned calls: steps of the meeting. -/
import Derived.Test.YtbfafljcclfeaaaGreatDoorToX
namespace Go.Proofs.YtbfafljcclfeaaaGreatDoor
set_option linter.unusedSimpArgs false
set_option linter.unusedVariables false
set_option linter.unnecessarySimpa false
set_option linter.unusedSectionVars false
set_option maxRecDepth 100000
open Go Go.RowKit Go.Am Go.Proofs.Grow

theorem st0_00 : okE (runF (cfX t0) 60 68 [] [mt0, xsd 0 0] 0) (.tup [.agg [.d (xl), .d (xn 0), .d (xn 0)], xv 1], []) = true := by kernel_rfl
theorem st0_01 : okE (runF (cfX t0) 60 68 [] [mt0, xsd 0 1] 0) (.tup [mt1, xv 0], []) = true := by kernel_rfl
theorem st1_02 : okE (runF (cfX t0) 60 68 [] [mt1, xsd 0 2] 0) (.tup [mt2, xv 0], []) = true := by kernel_rfl
end Go.Proofs.YtbfafljcclfeaaaGreatDoor

/- Reckoned calls: steps of the meeting. -/
namespace Go.Proofs.YtbfafljcclfeaaaGreatDoor
set_option linter.unusedSimpArgs false
set_option linter.unusedVariables false
set_option linter.unnecessarySimpa false
set_option linter.unusedSectionVars false
set_option maxRecDepth 100000
open Go Go.RowKit Go.Am Go.Proofs.Grow

theorem st2_10 : okE (runF (cfX t0) 60 68 [] [mt2, xsd 1 0] 0) (.tup [mt3, xv 0], []) = true := by kernel_rfl
theorem st3_11 : okE (runF (cfX t0) 60 68 [] [mt3, xsd 1 1] 0) (.tup [.agg [.d (xl), .d (xn 0), .d (xn 0)], xv 1], []) = true := by kernel_rfl
theorem st3_12 : okE (runF (cfX t0) 60 68 [] [mt3, xsd 1 2] 0) (.tup [mt4, xv 0], []) = true := by kernel_rfl
end Go.Proofs.YtbfafljcclfeaaaGreatDoor

/- Reckoned calls: steps of the meeting. -/
namespace Go.Proofs.YtbfafljcclfeaaaGreatDoor
set_option linter.unusedSimpArgs false
set_option linter.unusedVariables false
set_option linter.unnecessarySimpa false
set_option linter.unusedSectionVars false
set_option maxRecDepth 100000
open Go Go.RowKit Go.Am Go.Proofs.Grow

theorem st4_20 : okE (runF (cfX t0) 60 68 [] [mt4, xsd 2 0] 0) (.tup [mt5, xv 0], []) = true := by kernel_rfl
theorem st5_21 : okE (runF (cfX t0) 60 68 [] [mt5, xsd 2 1] 0) (.tup [mt6, xv 0], []) = true := by kernel_rfl
theorem st6_22 : okE (runF (cfX t0) 60 68 [] [mt6, xsd 2 2] 0) (.tup [.agg [.d (xl), .d (xn 0), .d (xn 0)], xv 1], []) = true := by kernel_rfl
theorem st6_00 : okE (runF (cfX t0) 60 68 [] [mt6, xsd 0 0] 0) (.tup [.agg [.d (xl), .d (xn 0), .d (xn 0)], xv 1], []) = true := by kernel_rfl
end Go.Proofs.YtbfafljcclfeaaaGreatDoor
