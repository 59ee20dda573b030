/- Go functions as Lean functions, and that each Go function comes to just that; printed by a program of this session (gprint.py over the kit's print.py). No condition. -/
import Derived.Test.YtohilfkdfcihgaaPDix0
namespace Go.Proofs.Ytohilfkdfcihgaa.PDi
open Go.RowKit Go.Proofs.YtohilfkdfcihgaaW.PrintWords Go.Proofs.YtohilfkdfcihgaaW.PrintLast Go.Proofs.YtohilfkdfcihgaaW.PrintMore
attribute [local go_sem] max2_int min2_int max_two min_two max_three min_three max_four min_four   -- for this text's walks alone
set_option linter.unusedVariables false
set_option linter.unusedSimpArgs false
def laws_eqDEntryS.T6 : Bool × List (List Nat × List Nat) := (true, [([], []), ([], []), ([0, 1], [0, 1]), ([2], [2]), ([], []), ([], []), ([4, 5], [4, 5]), ([6], [6]), ([3, 7], [3, 7]), ([8], [8])])
def laws_eqDEntryS.B6 : List Nat := [0, 0, 3, 7, 0, 0, 48, 112, 255, 511]
theorem laws_eqDEntryS.tab6 : rtab .any (opsOf Try.f41 6) = laws_eqDEntryS.T6 := by kernel_rfl
theorem laws_eqDEntryS.bits6 : waitsOk laws_eqDEntryS.T6.2 laws_eqDEntryS.B6 = true := by kernel_rfl
end Go.Proofs.Ytohilfkdfcihgaa.PDi
