/- What TextOk and TextLen of the program come to, over the shelf's contracts of utf8.ValidString and utf8.RuneCountInString; and the walks of the laws on them. No condition beyond those of the theorems. -/
import Derived.Test.YtddljmfgmolhaaaDoorPTx1
import Derived.Test.YtddljmfgmolhaaaDoorShelf
namespace Go.Proofs.YtddljmfgmolhaaaDoor.PT
open Go.RowKit Go.Shelf Go.Proofs.YtddljmfgmolhaaaDoorW.PrintWords Go.Proofs.YtddljmfgmolhaaaDoorW.PrintLast
set_option linter.unusedVariables false
set_option linter.unusedSimpArgs false

def Tabs (w : World) : Prop := Lib.Utf8Tabs (Tryd.laysValid_ren.g 3) (Tryd.laysValid_ren.g 4) w
theorem Tabs.below {w w' : World} (h : Tabs w) (hb : Below w.heap.size w w') : Tabs w' := ⟨fun c hc => pw_cell_below hb (h.1 c hc), fun i hi => ⟨pw_cell_below hb (h.2 i hi).1, pw_cell_below hb (h.2 i hi).2⟩⟩

def okB (s : ByteArray) : Bool := decide (s.size ≤ 16384) && Lib.validD s.data.toList

set_option maxHeartbeats 1000000 in
set_option maxRecDepth 1000000 in
theorem implOk_calls (s : ByteArray) (w : World) (hs : s.size ≤ 9223372036854775807) (hT : Tabs w) :
    Calls Tryd.prog 7 #[.string s] w fun e w' => e = .returned (.bool (okB s)) ∧ Below w.heap.size w w' := by
  have cV : Calls Tryd.prog 13 #[.string s] w _ := Any.utf8_ValidString Tryd.laysValid s w hs hT
  unfold okB
  generalize Lib.validD s.data.toList = V at cV ⊢
  by_cases h0 : s.size ≤ 16384
  · have h0z : (s.size : Int) ≤ 16384 := by omega
    rw [decide_eq_true h0, Bool.true_and]
    go_enter Tryd.func7, Tryd.ntmps7
    go_wp2_with (go_at_call 13; refine cV.mono ?_; rintro e w' ⟨rfl, hb⟩)
    go_ret
    exact ⟨rfl, hb⟩
  · have h0z : ¬ ((s.size : Int) ≤ 16384) := by omega
    rw [decide_eq_false h0, Bool.false_and]
    clear cV
    go_enter Tryd.func7, Tryd.ntmps7
    go_wp2
    go_ret
    exact ⟨rfl, Below.refl _ _⟩

def lenB (s : ByteArray) : Int := if okB s = true then (Lib.runeCount s : Int) else -1

set_option maxHeartbeats 1000000 in
set_option maxRecDepth 1000000 in
theorem implLen_calls (s : ByteArray) (w : World) (hs : s.size < 9223372036854775807) (hT : Tabs w) :
    Calls Tryd.prog 9 #[.string s] w fun e w' => e = .returned (.int .i64 (lenB s)) ∧ Below w.heap.size w w' := by
  have cO := implOk_calls s w (by omega) hT
  unfold lenB
  generalize okB s = V at cO ⊢
  cases V with
  | true =>
    rw [if_pos rfl]
    go_enter Tryd.func9, Tryd.ntmps9
    go_wp2_with fail
    refine cO.mono ?_
    rintro e w1 ⟨rfl, hb⟩
    have HB := Aside0.mk hb
    clear hb
    have cR : Calls Tryd.prog 14 #[.string s] w1 _ := Any.utf8_RuneCountInString Tryd.lays195 s w1 hs
    go_wp2_with fail
    refine cR.mono ?_
    rintro e w2 ⟨rfl, pos, rfl⟩
    go_wp2
    go_ret
    exact ⟨rfl, below_alloc HB.out _⟩
  | false =>
    rw [if_neg (by decide)]
    go_enter Tryd.func9, Tryd.ntmps9
    go_wp2_with fail
    refine cO.mono ?_
    rintro e w1 ⟨rfl, hb⟩
    go_wp2
    go_ret
    exact ⟨rfl, hb⟩

set_option maxHeartbeats 1000000 in
set_option maxRecDepth 1000000 in
/-- The law on TextOk. -/
theorem lawOk_calls (P : ∀ s : ByteArray, s.size ≤ 1048576 → ∃ k, spec_TextOk.f k s = some (okB s)) (s : ByteArray) (w : World) (hT : Tabs w) :
    Calls Tryd.prog 3 #[.string s] w fun e w' => e = .returned (.bool true) ∧ Below w.heap.size w w' := by
  by_cases h0 : 1048576 < s.size
  · have h0z : (1048576 : Int) < (s.size : Int) := by omega
    go_enter Tryd.func3, Tryd.ntmps3
    go_wp2
    go_ret
    exact ⟨rfl, Below.refl _ _⟩
  · have h0z : ¬ ((1048576 : Int) < (s.size : Int)) := by omega
    obtain ⟨k, hk⟩ := P s (by omega)
    have HK := Aside0.mk hk
    have HT := Aside0.mk hT
    clear hk hT P
    go_enter Tryd.func3, Tryd.ntmps3
    go_wp2_with fail
    refine (spec_TextOk.calls k s _ w HK.out).mono ?_
    rintro e w1 ⟨rfl, hb⟩
    have HB := Aside0.mk hb
    have cI := implOk_calls s w1 (by omega) (HT.out.below hb)
    clear hb HK
    generalize okB s = V at *
    go_wp2_with fail
    refine cI.mono ?_
    rintro e w2 ⟨rfl, hb⟩
    have HB2 := Aside0.mk (below_step HB.out hb)
    clear hb cI
    cases V with
    | true =>
      go_wp2
      go_ret
      exact ⟨rfl, HB2.out⟩
    | false =>
      go_wp2
      go_ret
      exact ⟨rfl, HB2.out⟩

set_option maxHeartbeats 1000000 in
set_option maxRecDepth 1000000 in
/-- The law on TextLen. -/
theorem lawLen_calls (P : ∀ s : ByteArray, s.size ≤ 1048576 → ∃ k, spec_TextLen.f k s = some (lenB s)) (s : ByteArray) (w : World) (hT : Tabs w) :
    Calls Tryd.prog 4 #[.string s] w fun e w' => e = .returned (.bool true) ∧ Below w.heap.size w w' := by
  by_cases h0 : 1048576 < s.size
  · have h0z : (1048576 : Int) < (s.size : Int) := by omega
    go_enter Tryd.func4, Tryd.ntmps4
    go_wp2
    go_ret
    exact ⟨rfl, Below.refl _ _⟩
  · have h0z : ¬ ((1048576 : Int) < (s.size : Int)) := by omega
    obtain ⟨k, hk⟩ := P s (by omega)
    have HK := Aside0.mk hk
    have HT := Aside0.mk hT
    clear hk hT P
    go_enter Tryd.func4, Tryd.ntmps4
    go_wp2_with fail
    refine (spec_TextLen.calls k s _ w HK.out).mono ?_
    rintro e w1 ⟨rfl, hb⟩
    have HB := Aside0.mk hb
    have cI := implLen_calls s w1 (by omega) (HT.out.below hb)
    clear hb HK
    generalize lenB s = V at *
    go_wp2_with fail
    refine cI.mono ?_
    rintro e w2 ⟨rfl, hb⟩
    have HB2 := Aside0.mk (below_step HB.out hb)
    clear hb cI
    go_wp2
    go_ret
    exact ⟨rfl, HB2.out⟩

end Go.Proofs.YtddljmfgmolhaaaDoor.PT
