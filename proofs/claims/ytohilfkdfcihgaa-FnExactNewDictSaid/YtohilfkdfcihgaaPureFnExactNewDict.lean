/- The program's NewDict returns what the reference's returns, and what it returns is its own. No condition. -/
import Derived.Test.YtohilfkdfcihgaaPFnExactNewDictx4
namespace Go.Proofs.Ytohilfkdfcihgaa.Pure
open Go.RowKit Go.Proofs.Ytohilfkdfcihgaa.PFnExactNewDict Go.Proofs.YtohilfkdfcihgaaW.PrintWords Go.Proofs.YtohilfkdfcihgaaW.PrintLast

theorem FnExactNewDict : laws_FnExactNewDict.Pure := ⟨40, by decide +kernel⟩

end Go.Proofs.Ytohilfkdfcihgaa.Pure
