/- Go functions as Lean functions, and that each Go function comes to just that; printed by a program of this session (gprint.py over the kit's print.py). No condition. -/
import Derived.Test.YtghjbadanhplnaaPFx0
namespace Go.Proofs.Ytghjbadanhplnaa.PF
open Go.RowKit Go.Proofs.YtghjbadanhplnaaW.PrintWords Go.Proofs.YtghjbadanhplnaaW.PrintLast Go.Proofs.YtghjbadanhplnaaW.PrintMore
attribute [local go_sem] max2_int min2_int max_two min_two max_three min_three max_four min_four   -- for this text's walks alone
set_option linter.unusedVariables false
set_option linter.unusedSimpArgs false



structure S36 where
  f0 : Bool
  f1 : (List Int)
end Go.Proofs.Ytghjbadanhplnaa.PF
