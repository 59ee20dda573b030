/- Go functions as Lean functions, and that each Go function comes to just that; printed by a program of this session (gprint.py over the kit's print.py). No condition. -/
import Derived.Test.YtghjbadanhplnaaPFx0
import Derived.Test.YtghjbadanhplnaaPFx2
namespace Go.Proofs.Ytghjbadanhplnaa.PF
open Go.RowKit Go.Proofs.YtghjbadanhplnaaW.PrintWords Go.Proofs.YtghjbadanhplnaaW.PrintLast Go.Proofs.YtghjbadanhplnaaW.PrintMore
attribute [local go_sem] max2_int min2_int max_two min_two max_three min_three max_four min_four   -- for this text's walks alone
set_option linter.unusedVariables false
set_option linter.unusedSimpArgs false

/-! ### spec_l2Order: function 14 -/
def spec_l2Order.f (k : Nat) (a0_0 : Bool) (l0_1 : List Int) (a1_0 : Bool) (l1_1 : List Int) : Option (Int) := (spec_l1Minus.f k a1_0 l1_1).bind fun bt201 => ((spec_l1Sum.f k a0_0 l0_1 bt201.1 bt201.2).bind fun bt205 => (if (bt205.2.length : Int) = 0 then (some 0) else (if bt205.1 = true then (some (-1)) else (some 1))))
end Go.Proofs.Ytghjbadanhplnaa.PF
