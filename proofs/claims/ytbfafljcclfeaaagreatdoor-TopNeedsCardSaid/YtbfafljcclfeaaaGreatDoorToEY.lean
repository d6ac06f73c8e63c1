/- Reckoned calls: steps of the meeting. -/
import Derived.Test.YtbfafljcclfeaaaGreatDoorToX
namespace Go.Proofs.YtbfafljcclfeaaaGreatDoor
set_option linter.unusedSimpArgs false
set_option linter.unusedVariables false
set_option linter.unnecessarySimpa false
set_option linter.unusedSectionVars false
set_option maxRecDepth 100000
open Go Go.RowKit Go.Am Go.Proofs.Grow

theorem st6_01 : okE (runF (cfX t0) 60 68 [] [mt6, xsd 0 1] 0) (.tup [mt7, xv 0], []) = true := by kernel_rfl
theorem st7_02 : okE (runF (cfX t0) 60 68 [] [mt7, xsd 0 2] 0) (.tup [mt8, xv 0], []) = true := by kernel_rfl
theorem st8_10 : okE (runF (cfX t0) 60 68 [] [mt8, xsd 1 0] 0) (.tup [mt9, xv 0], []) = true := by kernel_rfl
theorem st9_11 : okE (runF (cfX t0) 60 68 [] [mt9, xsd 1 1] 0) (.tup [.agg [.d (xl), .d (xn 0), .d (xn 0)], xv 1], []) = true := by kernel_rfl
end Go.Proofs.YtbfafljcclfeaaaGreatDoor

/- Reckoned calls: steps of the meeting. -/
namespace Go.Proofs.YtbfafljcclfeaaaGreatDoor
set_option linter.unusedSimpArgs false
set_option linter.unusedVariables false
set_option linter.unnecessarySimpa false
set_option linter.unusedSectionVars false
set_option maxRecDepth 100000
open Go Go.RowKit Go.Am Go.Proofs.Grow

theorem st9_12 : okE (runF (cfX t0) 60 68 [] [mt9, xsd 1 2] 0) (.tup [mt10, xv 0], []) = true := by kernel_rfl
theorem st10_20 : okE (runF (cfX t0) 60 68 [] [mt10, xsd 2 0] 0) (.tup [.agg [.d (xl), .d (xn 0), .d (xn 0)], xv 9], []) = true := by kernel_rfl
theorem st10_21 : okE (runF (cfX t0) 60 68 [] [mt10, xsd 2 1] 0) (.tup [.agg [.d (xl), .d (xn 0), .d (xn 0)], xv 9], []) = true := by kernel_rfl
theorem st10_22 : okE (runF (cfX t0) 60 68 [] [mt10, xsd 2 2] 0) (.tup [.agg [.d (xl), .d (xn 0), .d (xn 0)], xv 1], []) = true := by kernel_rfl
theorem st10_00 : okE (runF (cfX t0) 60 68 [] [mt10, xsd 0 0] 0) (.tup [.agg [.d (xl), .d (xn 0), .d (xn 0)], xv 1], []) = true := by kernel_rfl
theorem st10_01 : okE (runF (cfX t0) 60 68 [] [mt10, xsd 0 1] 0) (.tup [.agg [.d (xl), .d (xn 0), .d (xn 0)], xv 9], []) = true := by kernel_rfl
end Go.Proofs.YtbfafljcclfeaaaGreatDoor

/- Reckoned calls: steps of the meeting. -/
namespace Go.Proofs.YtbfafljcclfeaaaGreatDoor
set_option linter.unusedSimpArgs false
set_option linter.unusedVariables false
set_option linter.unnecessarySimpa false
set_option linter.unusedSectionVars false
set_option maxRecDepth 100000
open Go Go.RowKit Go.Am Go.Proofs.Grow

theorem st10_02 : okE (runF (cfX t0) 60 68 [] [mt10, xsd 0 2] 0) (.tup [.agg [.d (xl), .d (xn 0), .d (xn 0)], xv 9], []) = true := by kernel_rfl
theorem st10_10 : okE (runF (cfX t0) 60 68 [] [mt10, xsd 1 0] 0) (.tup [.agg [.d (xl), .d (xn 0), .d (xn 0)], xv 9], []) = true := by kernel_rfl
theorem st10_11 : okE (runF (cfX t0) 60 68 [] [mt10, xsd 1 1] 0) (.tup [.agg [.d (xl), .d (xn 0), .d (xn 0)], xv 1], []) = true := by kernel_rfl
theorem st10_12 : okE (runF (cfX t0) 60 68 [] [mt10, xsd 1 2] 0) (.tup [.agg [.d (xl), .d (xn 0), .d (xn 0)], xv 9], []) = true := by kernel_rfl
end Go.Proofs.YtbfafljcclfeaaaGreatDoor
