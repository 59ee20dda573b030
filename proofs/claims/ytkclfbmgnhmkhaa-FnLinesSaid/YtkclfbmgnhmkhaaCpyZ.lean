/- The laws' sizes, copies and comparisons of classes, as plain functions. Plain law; no condition beyond those of the theorems. -/
import Derived.Test.YtkclfbmgnhmkhaaClsZ
namespace Go.Proofs.Ytkclfbmgnhmkhaa.PC
open Go.RowKit Go.Proofs.YtkclfbmgnhmkhaaW.PrintWords Go.Proofs.YtkclfbmgnhmkhaaW.PrintLast
set_option linter.unusedVariables false
set_option linter.unusedSimpArgs false

end Go.Proofs.Ytkclfbmgnhmkhaa.PC
