/- Go functions as Lean functions, and that each Go function comes to just that; printed by a program of this session (gprint.py over the kit's print.py). No condition. -/
import Derived.Test.YtkclfbmgnhmkhaaPCx8
import Derived.Test.YtkclfbmgnhmkhaaGL9
import Derived.Test.YtkclfbmgnhmkhaaPCx2
import Derived.Test.YtkclfbmgnhmkhaaPCx3
namespace Go.Proofs.Ytkclfbmgnhmkhaa.PC
open Go.RowKit Go.Proofs.YtkclfbmgnhmkhaaW.PrintWords Go.Proofs.YtkclfbmgnhmkhaaW.PrintLast Go.Proofs.YtkclfbmgnhmkhaaW.PrintMore
attribute [local go_sem] max2_int min2_int max_two min_two max_three min_three max_four min_four   -- for this text's walks alone
set_option linter.unusedVariables false
set_option linter.unusedSimpArgs false

/-! ### spec_Mro: function 33 -/
-- GIVEN: function 58 (laws_eqInt64S)

/-! ### laws_eqInt64SS: function 34 -/
-- NOT PRINTED: function 35 (laws_markInt64SS)

/-! ### laws_heldInt64S: function 59 -/
/-! ### laws_heldInt64SS: function 36 -/
-- NOT PRINTED: function 9 (laws_FnExactMro)

end Go.Proofs.Ytkclfbmgnhmkhaa.PC
