/- The program's NewDict returns what the reference returns, and what it returns is its own. No condition. -/
import Derived.Test.YtohilfkdfcihgaaPNdx4
namespace Go.Proofs.Ytohilfkdfcihgaa.Pure
open Go.RowKit Go.Proofs.Ytohilfkdfcihgaa.PNd Go.Proofs.YtohilfkdfcihgaaW.PrintWords Go.Proofs.YtohilfkdfcihgaaW.PrintLast

/-- YOURS: ∃ k, laws_FnExactNewDict.f k  = some true
What it reaches (each with k first where it has rounds; `.mono`: more rounds tell the same; `.l0`, ..: its loops, with `.mono_l`): spec_l7Next.f, spec_l7Table.f, spec_NewDict.f, impl_yempty.f, impl_NewDict.f, laws_eqInt64S.f, laws_eqDEntry.f, laws_eqDEntryS.f, laws_eqDict.f, laws_markInt64S.f, laws_markDEntryS.f, laws_markDict.f, laws_heldInt64S.f, laws_heldDEntryS.f, laws_heldDict.f, laws_FnExactNewDict.f -/
theorem FnExactNewDict : laws_FnExactNewDict.Pure := by
  exact ⟨40, by decide +kernel⟩

end Go.Proofs.Ytohilfkdfcihgaa.Pure
