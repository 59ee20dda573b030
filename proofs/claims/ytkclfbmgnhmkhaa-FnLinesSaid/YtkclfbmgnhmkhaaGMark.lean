/- What marking classes, and rows of numbers, comes to. No condition beyond those of the theorems. -/
import Derived.Test.YtkclfbmgnhmkhaaPMx1
namespace Go.Proofs.Ytkclfbmgnhmkhaa.PC
open Go.RowKit Go.Proofs.YtkclfbmgnhmkhaaW.PrintWords Go.Proofs.YtkclfbmgnhmkhaaW.PrintLast Go.Proofs.YtkclfbmgnhmkhaaW.PrintMore
set_option linter.unusedVariables false
set_option linter.unusedSimpArgs false

end Go.Proofs.Ytkclfbmgnhmkhaa.PC
