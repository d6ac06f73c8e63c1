/- Contracts of the source of numbers. -/
import Derived.Test.YtbfafljcclfeaaaGreatDoorPS
namespace Go.Proofs.YtbfafljcclfeaaaGreatDoor
set_option linter.unusedSimpArgs false
set_option linter.unusedVariables false
set_option linter.unnecessarySimpa false
set_option linter.unusedSectionVars false
set_option maxRecDepth 100000
open Go Go.RowKit Go.Am Go.Proofs.Grow

end Go.Proofs.YtbfafljcclfeaaaGreatDoor
