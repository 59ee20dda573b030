/- The law on TextWords, as a Lean function, answers true. No condition beyond the statement's. -/
import Derived.Test.YtfgiodolgmfdoaaDoorPTx7
import Derived.Test.YtfgiodolgmfdoaaDoorPureFnExactTextSplit
namespace Go.Proofs.YtfgiodolgmfdoaaDoor.PT
open Go.RowKit Go.Proofs.YtfgiodolgmfdoaaDoorW.PrintWords Go.Proofs.YtfgiodolgmfdoaaDoorW.PrintLast
set_option linter.unusedVariables false
set_option linter.unusedSimpArgs false

theorem wordsLaw (s : ByteArray) : laws_FnExactTextWords.f 500000 s = some true := by
  unfold laws_FnExactTextWords.f
  by_cases c1 : (s.size : Int) > 1048576
  · rw [if_pos c1]
  · rw [if_neg c1, specWords, Option.bind_some]
    have hi : impl_TextWords.f s = some (wordsM s) := by
      unfold impl_TextWords.f
      rw [if_pos (by omega)]
    have hl := wordsM_len s
    generalize wordsM s = r at *
    rw [hi, Option.bind_some, eqS_some r (by omega) _ (by omega), Option.bind_some, if_pos rfl, markS_some r _ (by omega) (by omega), Option.bind_some]
    dsimp only
    rw [heldS_some r.length _ (by omega) (by omega), Option.bind_some, if_neg (by omega), if_pos rfl, Option.bind_some, eqS_some r (by omega) _ (by omega), Option.bind_some, if_pos rfl, Option.bind_some, if_neg (by omega), if_pos rfl]

end Go.Proofs.YtfgiodolgmfdoaaDoor.PT
