/- What yattr of the program comes to. No condition beyond those of the theorems. -/
import Derived.Test.YtkclfbmgnhmkhaaGLin
namespace Go.Proofs.Ytkclfbmgnhmkhaa.PC
open Go.RowKit Go.Proofs.YtkclfbmgnhmkhaaW.PrintWords Go.Proofs.YtkclfbmgnhmkhaaW.PrintLast Go.Proofs.YtkclfbmgnhmkhaaW.PrintMore
set_option linter.unusedVariables false
set_option linter.unusedSimpArgs false

def hit (n : ByteArray) (a : S48) : Bool := a.f0.toList == n.toList
theorem find_drop (l : List S48) (n : ByteArray) (i : Nat) (h : i < l.length) : (l.drop i).find? (hit n) = if hit n l[i] = true then some l[i] else (l.drop (i + 1)).find? (hit n) := by
  rw [List.drop_eq_getElem_cons h, List.find?_cons]
  cases hit n l[i] <;> rfl
end Go.Proofs.Ytkclfbmgnhmkhaa.PC
