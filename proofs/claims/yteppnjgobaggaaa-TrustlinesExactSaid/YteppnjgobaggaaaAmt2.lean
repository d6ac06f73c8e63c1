/- Contracts of adding, taking away and scaling amounts, of the program and of the reference alike. -/
import Derived.Test.YteppnjgobaggaaaAmt
namespace Go.Proofs.Yteppnjgobaggaaa
set_option linter.unusedSimpArgs false
set_option linter.unusedVariables false
set_option linter.unnecessarySimpa false
set_option linter.unusedSectionVars false
set_option maxRecDepth 100000
open Go.RowKit Go.Proofs.Grow Go.Sort

theorem all1 (a x : Int) : allA [a] x = if okA a = true then (x, 0) else (0, 65) := by simp [allA]
theorem all3 (a b c x : Int) : allA [a, b, c] x = if (okA a && (okA b && okA c)) = true then (x, 0) else (0, 65) := by simp [allA]

end Go.Proofs.Yteppnjgobaggaaa
