/- Every exported constant of the program is the document's: the statement's function returns true. No condition. -/
import Derived.Test.YtddljmfgmolhaaaPConstx1
namespace Go.Proofs.Ytddljmfgmolhaaa.Pure
open Go.RowKit Go.Proofs.Ytddljmfgmolhaaa.PConst Go.Proofs.YtddljmfgmolhaaaW.PrintWords Go.Proofs.YtddljmfgmolhaaaW.PrintLast

theorem FnExactConstants : laws_FnExactConstants.Pure := rfl

end Go.Proofs.Ytddljmfgmolhaaa.Pure
