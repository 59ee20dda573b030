/- Go functions as Lean functions, and that each Go function comes to just that; printed by a program of this session (gprint.py over the kit's print.py). No condition. -/
import Derived.Test.YtkclfbmgnhmkhaaPCx0
import Derived.Test.YtkclfbmgnhmkhaaPCx2
namespace Go.Proofs.Ytkclfbmgnhmkhaa.PC
open Go.RowKit Go.Proofs.YtkclfbmgnhmkhaaW.PrintWords Go.Proofs.YtkclfbmgnhmkhaaW.PrintLast Go.Proofs.YtkclfbmgnhmkhaaW.PrintMore
attribute [local go_sem] max2_int min2_int max_two min_two max_three min_three max_four min_four   -- for this text's walks alone
set_option linter.unusedVariables false
set_option linter.unusedSimpArgs false

/-! ### laws_toClass: function 39 -/
/-! ### laws_toClassS: function 12 -/
-- GIVEN: function 13 (impl_ClassesOk)

/-! ### laws_eqAttr: function 55 -/
/-! ### laws_eqAttrS: function 28 -/
def laws_eqAttrS.T6 : Bool × List (List Nat × List Nat) := (true, [([], []), ([], []), ([0, 1], [0, 1]), ([2], [2]), ([], []), ([], []), ([4, 5], [4, 5]), ([6], [6]), ([3, 7], [3, 7]), ([8], [8])])
def laws_eqAttrS.B6 : List Nat := [0, 0, 3, 7, 0, 0, 48, 112, 255, 511]
theorem laws_eqAttrS.tab6 : rtab .any (opsOf Try.f28 6) = laws_eqAttrS.T6 := by kernel_rfl
theorem laws_eqAttrS.bits6 : waitsOk laws_eqAttrS.T6.2 laws_eqAttrS.B6 = true := by kernel_rfl
/-! ### laws_eqInt64S: function 58 -/
/-! ### laws_eqClass: function 41 -/
end Go.Proofs.Ytkclfbmgnhmkhaa.PC
