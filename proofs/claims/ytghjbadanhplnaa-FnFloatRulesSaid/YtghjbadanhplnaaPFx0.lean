/- Go functions as Lean functions, and that each Go function comes to just that; printed by a program of this session (gprint.py over the kit's print.py). No condition. -/
import Derived.Test.YtghjbadanhplnaaProg
import Derived.Below
import Derived.Deep.Draws
import Derived.Deep.AppendLies
import Derived.Maps.AppendAt
import Derived.OwnWalk
import Derived.Laws.BytesArg
import Derived.Laws.MakeOwn
import Derived.Laws.OwnMore
import Derived.Deep.OwnRows
import Derived.Tactics
import Derived.Lib.ConvBytes
import Derived.Laws.Slices
import Derived.WalkKit
import Derived.KernelRfl
import Derived.RowKit3
import Derived.Deep.LoopGhost
import Derived.Deep.QuietTactic
import Derived.BigQuiet
import Derived.WideLaws
import Derived.Deep.DeepCutAuto
import Derived.Deep.CutBlock
import Derived.Deep.RegionHeld3
import Derived.Laws.Rows
import Derived.Lib.AppendStr
import Derived.ArgAppend
import Derived.Laws.IdiomCopy
import Derived.OrdersHeld
import Derived.Laws.BitsLemmas
import Derived.RowKit
import Derived.Test.YtghjbadanhplnaaWWords
import Derived.Test.YtghjbadanhplnaaWLast
import Derived.Test.YtghjbadanhplnaaWTab
import Derived.Test.YtghjbadanhplnaaWFour
import Derived.Test.YtghjbadanhplnaaWQPut
import Derived.Test.YtghjbadanhplnaaWApart
import Derived.Test.YtghjbadanhplnaaWArr
import Derived.Test.YtghjbadanhplnaaWFoot
import Derived.Test.YtghjbadanhplnaaWKept
import Derived.Test.YtghjbadanhplnaaWShare
import Derived.Test.YtghjbadanhplnaaWN
import Derived.Test.YtghjbadanhplnaaWAt
import Derived.Laws.StructEq
import Derived.Test.YtghjbadanhplnaaWRepsOne
import Derived.Test.YtghjbadanhplnaaWInv
import Derived.Test.YtghjbadanhplnaaWGuard
import Derived.Test.YtghjbadanhplnaaWMore
namespace Go.Proofs.Ytghjbadanhplnaa.PF
open Go.RowKit Go.Proofs.YtghjbadanhplnaaW.PrintWords Go.Proofs.YtghjbadanhplnaaW.PrintLast Go.Proofs.YtghjbadanhplnaaW.PrintMore
attribute [local go_sem] max2_int min2_int max_two min_two max_three min_three max_four min_four   -- for this text's walks alone
set_option linter.unusedVariables false
set_option linter.unusedSimpArgs false



def errW : Option Int → Value
  | none => .nilIface
  | some c => .iface 0 (.int .i64 c)
theorem errW_none : errW none = .nilIface := rfl
theorem errW_some (c : Int) : errW (some c) = .iface 0 (.int .i64 c) := rfl

theorem info61 : (Try.prog.info? 61).map (fun i => (i.zero, i.size, i.bytes)) = some (some (.int .u32 0), 1, 4) := by kernel_rfl
-- the values' own types

end Go.Proofs.Ytghjbadanhplnaa.PF
