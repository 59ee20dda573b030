/- What TextWords of the program comes to, over the shelf's contracts of utf8.ValidString and strings.FieldsFunc. No condition beyond those of the theorems. -/
import Derived.Test.YtfgiodolgmfdoaaDoorWordsZ
import Derived.Test.YtfgiodolgmfdoaaDoorShelfF
import Derived.Test.YtfgiodolgmfdoaaDoorGSplit
namespace Go.Proofs.YtfgiodolgmfdoaaDoor.PT
open Go.RowKit Go.Shelf Go.Proofs.YtfgiodolgmfdoaaDoorW.PrintWords Go.Proofs.YtfgiodolgmfdoaaDoorW.PrintLast
set_option linter.unusedVariables false
set_option linter.unusedSimpArgs false

set_option maxHeartbeats 2000000 in
set_option maxRecDepth 1000000 in
theorem words_pays (w : World) : PredAtRunes Tryd.prog 55 #[] isW w := by
  intro W x hx hb
  show Calls Tryd.prog 55 #[.int .i32 (x : Int)] W fun e w' => e = .returned (.bool (isW x)) ∧ ∃ q, w' = W.drewN q
  unfold isW
  have k0 : ((x : Int) == 32) = (x == 32) := by rw [Bool.eq_iff_iff, beq_iff_eq, beq_iff_eq]; omega
  have k1 : ((x : Int) == 9) = (x == 9) := by rw [Bool.eq_iff_iff, beq_iff_eq, beq_iff_eq]; omega
  have k2 : ((x : Int) == 10) = (x == 10) := by rw [Bool.eq_iff_iff, beq_iff_eq, beq_iff_eq]; omega
  have k3 : ((x : Int) == 13) = (x == 13) := by rw [Bool.eq_iff_iff, beq_iff_eq, beq_iff_eq]; omega
  clear hb
  cases h0 : (x == 32) <;> cases h1 : (x == 9) <;> cases h2 : (x == 10) <;> cases h3 : (x == 13) <;> rw [h0] at k0 <;> rw [h1] at k1 <;> rw [h2] at k2 <;> rw [h3] at k3 <;> clear h0 h1 h2 h3 <;>
    (go_enter Tryd.func55, Tryd.ntmps55
     go_wp2
     go_ret
     exact ⟨rfl, 0, rfl⟩)

def impl_TextWords.f (s : ByteArray) : Option (List ByteArray) := if s.size ≤ 1048576 then some (wordsM s) else none

set_option maxHeartbeats 2000000 in
set_option maxRecDepth 1000000 in
theorem impl_TextWords.calls (a0 : ByteArray) (r : List ByteArray) (w : World) (h : impl_TextWords.f a0 = some r) (hT : Tabs w) :
    Calls Tryd.prog 16 #[.string a0] w fun e w' => ∃ v0_ : Value, e = .returned v0_ ∧ Kd.R Kd.string 9 w' w.heap.size (fun _ => True) v0_ r ∧ Below w.heap.size w w' := by
  unfold impl_TextWords.f at h
  split at h
  case isFalse => simp at h
  rename_i hs
  have h := Option.some.inj h
  have cO := implOk_calls a0 w (by omega) hT
  unfold wordsM at h
  generalize okB a0 = V at *
  cases V with
  | false =>
    rw [if_neg (by simp)] at h
    subst h
    clear hT
    go_enter Tryd.func16, Tryd.ntmps16
    go_wp2_with fail
    refine cO.mono ?_
    rintro e w1 ⟨rfl, hb⟩
    go_wp2
    go_ret
    exact ⟨_, rfl, Kd.R_nil _ _ _ _ _, hb⟩
  | true =>
    rw [if_pos rfl, ← goFields_words] at h
    subst h
    clear hT
    have CF := Aside0.mk (fun (w1 : World) => Any.strings_FieldsFunc_runes Tryd.lays229 55 #[] (enters_of Tryd.func55 (by kernel_rfl) rfl) isW a0 w1 (by omega) (words_pays w1) (by kernel_rfl) (by kernel_rfl))
    generalize Lib.goFieldsP isW a0 = F at *
    go_enter Tryd.func16, Tryd.ntmps16
    go_wp2_with fail
    refine cO.mono ?_
    rintro e w1 ⟨rfl, hb⟩
    have HB := Aside0.mk hb
    have cF : Calls Tryd.prog 54 #[.string a0, .func (.func 55) #[] #[]] w1 _ := CF.out w1
    clear hb cO CF
    go_wp2_with fail
    refine cF.mono ?_
    rintro e w2 ⟨A, rfl, hA, hown, hb⟩
    have HB2 := Aside0.mk (below_step HB.out hb)
    have HO := Aside0.mk (show Kd.R Kd.string 9 w2 w1.heap.size (fun _ => True) (.slice (some ⟨A, 0, none⟩) F.length F.length) F from Kd.R_of_own (enc := Value.string) hown (fun _ _ => trivial))
    have HO2 := Aside0.mk (Kd.R_lower HO.out HB.out.size)
    clear hb hown cF HO
    go_wp2
    go_ret
    exact ⟨_, rfl, HO2.out, HB2.out⟩

end Go.Proofs.YtfgiodolgmfdoaaDoor.PT
