/- Marks of rows, and what Mro and MroFits of the reference come to. Plain law; no condition beyond those of the theorems. -/
import Derived.Test.YtkclfbmgnhmkhaaLinP
import Derived.Test.YtkclfbmgnhmkhaaCpyZ
import Derived.Test.YtkclfbmgnhmkhaaPCx8
import Derived.Test.YtkclfbmgnhmkhaaGL9
import Derived.Test.YtkclfbmgnhmkhaaPCx2
import Derived.Test.YtkclfbmgnhmkhaaPCx3
import Derived.Test.YtkclfbmgnhmkhaaGMro
namespace Go.Proofs.Ytkclfbmgnhmkhaa.PC
open Go.RowKit Go.Proofs.YtkclfbmgnhmkhaaW.PrintWords Go.Proofs.YtkclfbmgnhmkhaaW.PrintLast Go.Proofs.YtkclfbmgnhmkhaaW.PrintMore
set_option linter.unusedVariables false
set_option linter.unusedSimpArgs false

theorem wrapS (i : Nat) (h : i < 9000000000000000000) : wrap64 ((i : Int) + 1) = ((i + 1 : Nat) : Int) := by
  rw [wrap_in _ (by omega) (by omega)]
  omega
end Go.Proofs.Ytkclfbmgnhmkhaa.PC
