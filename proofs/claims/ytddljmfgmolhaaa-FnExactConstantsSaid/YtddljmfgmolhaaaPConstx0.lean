/- Go functions as Lean functions, and that each Go function comes to just that; printed by a program of this session (gprint.py over the kit's print.py). No condition. -/
import Derived.Test.YtddljmfgmolhaaaProg
import Derived.Below
import Derived.Deep.Draws
import Derived.Deep.AppendLies
import Derived.Maps.AppendAt
import Derived.OwnWalk
import Derived.Laws.BytesArg
import Derived.Laws.MakeOwn
import Derived.Laws.OwnMore
import Derived.Deep.OwnRows
import Derived.Tactics
import Derived.Lib.ConvBytes
import Derived.Laws.Slices
import Derived.WalkKit
import Derived.KernelRfl
import Derived.RowKit3
import Derived.Deep.LoopGhost
import Derived.Deep.QuietTactic
import Derived.BigQuiet
import Derived.WideLaws
import Derived.Deep.DeepCutAuto
import Derived.Deep.CutBlock
import Derived.Deep.RegionHeld3
import Derived.Laws.Rows
import Derived.Lib.AppendStr
import Derived.ArgAppend
import Derived.Laws.IdiomCopy
import Derived.OrdersHeld
import Derived.Laws.BitsLemmas
import Derived.RowKit
import Derived.Test.YtddljmfgmolhaaaWWords
import Derived.Test.YtddljmfgmolhaaaWLast
import Derived.Test.YtddljmfgmolhaaaWTab
import Derived.Test.YtddljmfgmolhaaaWFour
import Derived.Test.YtddljmfgmolhaaaWQPut
import Derived.Test.YtddljmfgmolhaaaWApart
import Derived.Test.YtddljmfgmolhaaaWArr
import Derived.Test.YtddljmfgmolhaaaWZeros
import Derived.Test.YtddljmfgmolhaaaWFoot
import Derived.Test.YtddljmfgmolhaaaWKept
import Derived.Test.YtddljmfgmolhaaaWShare
import Derived.Test.YtddljmfgmolhaaaWN
import Derived.Test.YtddljmfgmolhaaaWFootNe
import Derived.Test.YtddljmfgmolhaaaWAt
import Derived.Test.YtddljmfgmolhaaaWEqStruct
import Derived.Test.YtddljmfgmolhaaaWRepsOne
import Derived.Test.YtddljmfgmolhaaaWInv
import Derived.Test.YtddljmfgmolhaaaWInvWords
import Derived.Test.YtddljmfgmolhaaaWGuard
import Derived.Test.YtddljmfgmolhaaaWNEv
import Derived.Test.YtddljmfgmolhaaaWMore
namespace Go.Proofs.Ytddljmfgmolhaaa.PConst
open Go.RowKit Go.Proofs.YtddljmfgmolhaaaW.PrintWords Go.Proofs.YtddljmfgmolhaaaW.PrintLast Go.Proofs.YtddljmfgmolhaaaW.PrintMore
attribute [local go_sem] max2_int min2_int max_two min_two max_three min_three max_four min_four   -- for this text's walks alone
set_option linter.unusedVariables false
set_option linter.unusedSimpArgs false



def errW : Option Int → Value
  | none => .nilIface
  | some c => .iface 0 (.int .i64 c)
theorem errW_none : errW none = .nilIface := rfl
theorem errW_some (c : Int) : errW (some c) = .iface 0 (.int .i64 c) := rfl

-- the values' own types

end Go.Proofs.Ytddljmfgmolhaaa.PConst
