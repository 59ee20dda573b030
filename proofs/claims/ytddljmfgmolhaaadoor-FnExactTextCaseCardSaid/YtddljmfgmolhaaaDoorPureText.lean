/- What the reference's TextOk and TextLen come to: what the program's come to. Plain law; no condition beyond those of the theorems. -/
import Derived.Test.YtddljmfgmolhaaaDoorGText
import Derived.Test.YtddljmfgmolhaaaDoorUtf
namespace Go.Proofs.YtddljmfgmolhaaaDoor.PT
open Go.RowKit Go.Proofs.YtddljmfgmolhaaaDoorW.PrintWords Go.Proofs.YtddljmfgmolhaaaDoorW.PrintLast
set_option linter.unusedVariables false

theorem okB_iff (s : ByteArray) : okB s = true ↔ s.size ≤ 16384 ∧ Lib.validD s.data.toList = true := by
  unfold okB
  rw [Bool.and_eq_true, decide_eq_true_eq]

theorem specOk (s : ByteArray) (k : Nat) (hk : 400000 ≤ k) : spec_TextOk.f k s = some (okB s) := by
  unfold spec_TextOk.f
  rw [runes_some s k hk]
  by_cases h : okB s = true
  · rw [if_pos ((okB_iff s).1 h), Option.bind_some, h]
  · rw [if_neg (fun hh => h ((okB_iff s).2 hh)), Option.bind_some]
    simpa using h

theorem specLen (s : ByteArray) (k : Nat) (hk : 400000 ≤ k) : spec_TextLen.f k s = some (lenB s) := by
  unfold spec_TextLen.f lenB
  rw [runes_some s k hk]
  by_cases h : okB s = true
  · have h2 := (okB_iff s).1 h
    rw [if_pos h2, Option.bind_some, if_pos h]
    dsimp only
    rw [if_pos rfl, runes_count s h2.1 h2.2]
  · rw [if_neg (fun hh => h ((okB_iff s).2 hh)), Option.bind_some, if_neg h]
    rfl

end Go.Proofs.YtddljmfgmolhaaaDoor.PT
