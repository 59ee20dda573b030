/- What the reference's TextOk comes to: what the program's comes to. Plain law; no condition beyond those of the theorems. -/
import Derived.Test.YtfgiodolgmfdoaaDoorGText
import Derived.Test.YtfgiodolgmfdoaaDoorUtf
namespace Go.Proofs.YtfgiodolgmfdoaaDoor.PT
open Go.RowKit Go.Proofs.YtfgiodolgmfdoaaDoorW.PrintWords Go.Proofs.YtfgiodolgmfdoaaDoorW.PrintLast
set_option linter.unusedVariables false

theorem okB_iff (s : ByteArray) : okB s = true ↔ s.size ≤ 16384 ∧ Lib.validD s.data.toList = true := by
  unfold okB
  rw [Bool.and_eq_true, decide_eq_true_eq]

theorem specOk (s : ByteArray) (k : Nat) (hk : 400000 ≤ k) : spec_TextOk.f k s = some (okB s) := by
  unfold spec_TextOk.f
  rw [runes_some s k hk]
  by_cases h : okB s = true
  · rw [if_pos ((okB_iff s).1 h), Option.bind_some, h]
  · rw [if_neg (fun hh => h ((okB_iff s).2 hh)), Option.bind_some]
    simpa using h

end Go.Proofs.YtfgiodolgmfdoaaDoor.PT
