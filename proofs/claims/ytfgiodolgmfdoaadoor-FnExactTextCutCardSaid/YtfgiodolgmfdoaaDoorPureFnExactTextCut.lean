/- At every text and bounds the program's TextCut answers as the reference's. Plain law; no condition. -/
import Derived.Test.YtfgiodolgmfdoaaDoorCutZ
import Derived.Test.YtfgiodolgmfdoaaDoorPQx2
namespace Go.Proofs.YtfgiodolgmfdoaaDoor.PT
open Go.RowKit Go.Proofs.YtfgiodolgmfdoaaDoorW.PrintWords Go.Proofs.YtfgiodolgmfdoaaDoorW.PrintLast
theorem cutLaw (s : ByteArray) (h1 : Bool) (x1 : Int) (h2 : Bool) (x2 : Int) (h3 : Bool) (x3 : Int) (hx1 : (Lit.int .i64 x1).wf = true) (hx2 : (Lit.int .i64 x2).wf = true) (hx3 : (Lit.int .i64 x3).wf = true) :
    laws_FnExactTextCut.f 500000 s h1 x1 h2 x2 h3 x3 = some true := by
  unfold laws_FnExactTextCut.f
  by_cases hs : (s.size : Int) > 1048576
  · rw [if_pos hs]
  · have hi : impl_TextCut.f s h1 x1 h2 x2 h3 x3 = some (cutM s h1 x1 h2 x2 h3 x3) := by
      have hr := wf_range hx3
      unfold impl_TextCut.f
      rw [if_pos ⟨by omega, hr.1, hr.2⟩]
    rw [if_neg hs]
    unfold laws_toBound.f
    simp only [Option.bind_some]
    rw [specCut s h1 x1 h2 x2 h3 x3 hx1 hx2 hx3, Option.bind_some, hi, Option.bind_some, if_pos rfl, if_pos rfl]
end Go.Proofs.YtfgiodolgmfdoaaDoor.PT
