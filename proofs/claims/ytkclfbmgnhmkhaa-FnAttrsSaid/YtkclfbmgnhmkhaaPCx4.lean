/- Go functions as Lean functions, and that each Go function comes to just that; printed by a program of this session (gprint.py over the kit's print.py). No condition. -/
import Derived.Test.YtkclfbmgnhmkhaaPCx0
import Derived.Test.YtkclfbmgnhmkhaaPCx1
import Derived.Test.YtkclfbmgnhmkhaaPCx2
import Derived.Test.YtkclfbmgnhmkhaaPCx3
import Derived.Test.YtkclfbmgnhmkhaaGCls
namespace Go.Proofs.Ytkclfbmgnhmkhaa.PC
open Go.RowKit Go.Proofs.YtkclfbmgnhmkhaaW.PrintWords Go.Proofs.YtkclfbmgnhmkhaaW.PrintLast Go.Proofs.YtkclfbmgnhmkhaaW.PrintMore
attribute [local go_sem] max2_int min2_int max_two min_two max_three min_three max_four min_four   -- for this text's walks alone
set_option linter.unusedVariables false
set_option linter.unusedSimpArgs false

/-! ### laws_eqClassS: function 14 -/
def laws_eqClassS.l0 : Nat → List (S41) → List (S41) → Int → Option (Bool)
 | 0, _, _, _ => none
 | k + 1, x0, x1, x5 => if x5 < (x0.length : Int) then (if 0 ≤ x5 then (if x5 < (x1.length : Int) then ((laws_eqClass.f k ((rd_T41 x0 x5).f0) ((rd_T41 x0 x5).f1) ((rd_T41 x1 x5).f0) ((rd_T41 x1 x5).f1)).bind fun t169 => (if t169 = true then (laws_eqClassS.l0 k x0 x1 (wrap64 (x5 + 1))) else (some false))) else (none)) else (none)) else (some true)
def laws_eqClassS.f (k : Nat) (l0 : List (S41)) (l1 : List (S41)) : Option (Bool) := if (l0.length : Int) = (l1.length : Int) then (laws_eqClassS.l0 k l0 l1 0) else (some false)
def laws_eqClassS.T6 : Bool × List (List Nat × List Nat) := (true, [([], []), ([], []), ([0, 1], [0, 1]), ([2], [2]), ([], []), ([], []), ([4, 5], [4, 5]), ([6], [6]), ([3, 7], [3, 7]), ([8], [8])])
def laws_eqClassS.B6 : List Nat := [0, 0, 3, 7, 0, 0, 48, 112, 255, 511]
theorem laws_eqClassS.tab6 : rtab .any (opsOf Try.f14 6) = laws_eqClassS.T6 := by kernel_rfl
theorem laws_eqClassS.bits6 : waitsOk laws_eqClassS.T6.2 laws_eqClassS.B6 = true := by kernel_rfl
/-! ### laws_FnExactClassesOk: function 3 -/
end Go.Proofs.Ytkclfbmgnhmkhaa.PC
