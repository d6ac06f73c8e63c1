/- Reckoned calls: the configuration is read; its minimal quorums. -/
import Derived.Test.YtbfafljcclfeaaaGreatDoorToX
namespace Go.Proofs.YtbfafljcclfeaaaGreatDoor
set_option linter.unusedSimpArgs false
set_option linter.unusedVariables false
set_option linter.unnecessarySimpa false
set_option linter.unusedSectionVars false
set_option maxRecDepth 100000
open Go Go.RowKit Go.Am Go.Proofs.Grow

def xsrc : AV := .d (.v (.string ⟨#[48, 58, 32, 50, 32, 111, 102, 32, 40, 48, 44, 32, 49, 44, 32, 50, 41, 10, 49, 58, 32, 50, 32, 111, 102, 32, 40, 48, 44, 32, 49, 44, 32, 50, 41, 10, 50, 58, 32, 50, 32, 111, 102, 32, 40, 48, 44, 32, 49, 44, 32, 50, 41, 10]⟩))
def xmem : List D := [xT, xn 2, .rows 1 [[xn 0], [xn 1], [xn 2]], xl]
def xc3 : AV := .agg [.d (.rows 4 [xmem, xmem, xmem])]
theorem e36 : okE (runF (cfX t0) 60 36 [] [xsrc] 0) (.tup [xc3, xv 0, xv 0], []) = true := by kernel_rfl
theorem e37 : okE (runF (cfX t0) 60 37 [] [xc3] 0) (.tup [.own 5168, xv 0], [(5168, .arr 3 1 [[xn 3], [xn 5], [xn 6]])]) = true := by kernel_rfl
end Go.Proofs.YtbfafljcclfeaaaGreatDoor
