/- What FloatCmp of the program comes to. No condition beyond those of the theorems. -/
import Derived.Test.YtghjbadanhplnaaPFx0
import Derived.Laws.Externs
import Derived.Laws.Cover2
namespace Go.Proofs.Ytghjbadanhplnaa.PF
open Go.RowKit Go.Proofs.YtghjbadanhplnaaW.PrintWords Go.Proofs.YtghjbadanhplnaaW.PrintLast
set_option linter.unusedVariables false
set_option linter.unusedSimpArgs false

theorem call16 (a : Int) (w : World) : (callFunc 16 #[.int .u64 a]).run Try.prog w = .ok (.value (.float .f64 a.toNat)) w := by
  rw [run_callFunc_extern Try.func16 (by kernel_rfl) (by kernel_rfl) (by kernel_rfl) (e := Extern.MathFloatBits.float64frombits) (by kernel_rfl)]
  rfl
attribute [local go_sem] call16
def cmpF (x y : Nat) : Int :=
  if (FloatKind.f64.format.order x x != some .eq) = true then 2 else if (FloatKind.f64.format.order y y != some .eq) = true then 2 else
    if (FloatKind.f64.format.order x y == some .lt) = true then -1 else if (FloatKind.f64.format.order x y == some .gt) = true then 1 else 0
def impl_FloatCmp.f (a0 a1 : Int) : Option Int := some (cmpF a0.toNat a1.toNat)

end Go.Proofs.Ytghjbadanhplnaa.PF
