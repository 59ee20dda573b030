/- What TextOk and TextLen of the program come to, over the shelf's contracts of utf8.ValidString and utf8.RuneCountInString; and the walks of the laws on them. No condition beyond those of the theorems. -/
import Derived.Test.YtfgiodolgmfdoaaDoorPTx1
import Derived.Test.YtfgiodolgmfdoaaDoorShelf
namespace Go.Proofs.YtfgiodolgmfdoaaDoor.PT
open Go.RowKit Go.Shelf Go.Proofs.YtfgiodolgmfdoaaDoorW.PrintWords Go.Proofs.YtfgiodolgmfdoaaDoorW.PrintLast
set_option linter.unusedVariables false
set_option linter.unusedSimpArgs false

def Tabs (w : World) : Prop := Lib.Utf8Tabs (Tryd.laysValid_ren.g 3) (Tryd.laysValid_ren.g 4) w
theorem Tabs.below {w w' : World} (h : Tabs w) (hb : Below w.heap.size w w') : Tabs w' := ⟨fun c hc => pw_cell_below hb (h.1 c hc), fun i hi => ⟨pw_cell_below hb (h.2 i hi).1, pw_cell_below hb (h.2 i hi).2⟩⟩

def okB (s : ByteArray) : Bool := decide (s.size ≤ 16384) && Lib.validD s.data.toList

set_option maxHeartbeats 1000000 in
set_option maxRecDepth 1000000 in
theorem implOk_calls (s : ByteArray) (w : World) (hs : s.size ≤ 9223372036854775807) (hT : Tabs w) :
    Calls Tryd.prog 53 #[.string s] w fun e w' => e = .returned (.bool (okB s)) ∧ Below w.heap.size w w' := by
  have cV : Calls Tryd.prog 95 #[.string s] w _ := Any.utf8_ValidString Tryd.laysValid s w hs hT
  unfold okB
  generalize Lib.validD s.data.toList = V at cV ⊢
  by_cases h0 : s.size ≤ 16384
  · have h0z : (s.size : Int) ≤ 16384 := by omega
    rw [decide_eq_true h0, Bool.true_and]
    go_enter Tryd.func53, Tryd.ntmps53
    go_wp2_with (go_at_call 95; refine cV.mono ?_; rintro e w' ⟨rfl, hb⟩)
    go_ret
    exact ⟨rfl, hb⟩
  · have h0z : ¬ ((s.size : Int) ≤ 16384) := by omega
    rw [decide_eq_false h0, Bool.false_and]
    clear cV
    go_enter Tryd.func53, Tryd.ntmps53
    go_wp2
    go_ret
    exact ⟨rfl, Below.refl _ _⟩


end Go.Proofs.YtfgiodolgmfdoaaDoor.PT
