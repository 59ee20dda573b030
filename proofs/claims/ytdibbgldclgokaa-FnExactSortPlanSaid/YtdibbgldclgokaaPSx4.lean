/- Go functions as Lean functions, and that each Go function comes to just that; printed by a program of this session (gprint.py over the kit's print.py). No condition. -/
import Derived.Test.YtdibbgldclgokaaPSx0
import Derived.Test.YtdibbgldclgokaaPSx1
import Derived.Test.YtdibbgldclgokaaPSx2
import Derived.Test.YtdibbgldclgokaaPSx3
import Derived.Test.YtdibbgldclgokaaGPlan
import Derived.Test.YtdibbgldclgokaaGPlanS
namespace Go.Proofs.Ytdibbgldclgokaa.PS
open Go.RowKit Go.Proofs.YtdibbgldclgokaaW.PrintWords Go.Proofs.YtdibbgldclgokaaW.PrintLast Go.Proofs.YtdibbgldclgokaaW.PrintMore
attribute [local go_sem] max2_int min2_int max_two min_two max_three min_three max_four min_four   -- for this text's walks alone
set_option linter.unusedVariables false
set_option linter.unusedSimpArgs false

/-! ### laws_heldAskS: function 22 -/
def laws_heldAskS.l0 : Nat → List (S34) → Int → Int → Option (Int)
 | 0, _, _, _ => none
 | k + 1, x0, x1, x5 => if x5 < (x0.length : Int) then (if 0 ≤ x5 then (if ((rd_T34 x0 x5).f0) = x1 then (if ((rd_T34 x0 x5).f1) = (wrap64 (x1 + 1)) then (laws_heldAskS.l0 k x0 (wrap64 ((wrap64 (x1 + 1)) + 1)) (wrap64 (x5 + 1))) else (some (-1))) else (some (-1))) else (none)) else (some x1)
def laws_heldAskS.f (k : Nat) (l0 : List (S34)) (a1 : Int) : Option (Int) := laws_heldAskS.l0 k l0 a1 0
theorem laws_heldAskS.mono_l : ∀ k, (∀ y0 y1 y2, LeO (laws_heldAskS.l0 k y0 y1 y2) (laws_heldAskS.l0 (k + 1) y0 y1 y2))
 | 0 => fun _ _ _ r h => by simp [laws_heldAskS.l0] at h
 | k + 1 => by
  have ih0 := laws_heldAskS.mono_l k
  ·intro y0 y1 y2
   unfold laws_heldAskS.l0
   repeat' first
   | (with_reducible exact ih0 _ _ _)
   | (with_reducible exact LeO.refl _)
   | (with_reducible exact LeO.none _)
   | (with_reducible refine LeO.ite ?_ ?_)
   | (with_reducible refine LeO.bind ?_ (fun _ => ?_))
   | exact ih0 _ _ _
   | exact LeO.none _
   | refine LeO.ite ?_ ?_
   | refine LeO.bind ?_ (fun _ => ?_)
theorem laws_heldAskS.mono : ∀ a0 a1 k, LeO (laws_heldAskS.f k a0 a1) (laws_heldAskS.f (k + 1) a0 a1) := by
 intro a0 a1 k
 have ih0 := laws_heldAskS.mono_l k
 unfold laws_heldAskS.f
 repeat' first
   | (with_reducible exact ih0 _ _ _)
   | (with_reducible exact LeO.refl _)
   | (with_reducible exact LeO.none _)
   | (with_reducible refine LeO.ite ?_ ?_)
   | (with_reducible refine LeO.bind ?_ (fun _ => ?_))
   | exact ih0 _ _ _
   | exact LeO.none _
   | refine LeO.ite ?_ ?_
   | refine LeO.bind ?_ (fun _ => ?_)
set_option maxHeartbeats 8000000 in
set_option maxRecDepth 100000 in
theorem laws_heldAskS.calls (k : Nat) (A0 : Option Addr) (c0 : Nat) (l0 : List (S34)) (a1 : Int) (r : Int) (w : World) (hr0 : Kd.C k34 w A0 l0.length l0) (hc0 : l0.length ≤ c0) (h : laws_heldAskS.f k l0 a1 = some r) :
  Calls Try.prog 22 #[.slice A0 l0.length c0, .int .i64 a1] w fun e w' => e = .returned (.int .i64 r) ∧ Drawn0 w w' := by
 have HR0 := Aside0.mk hr0
 have HC0 := Aside0.mk hc0
 clear hr0 hc0
 have H : (laws_heldAskS.l0 k l0 a1 0) = some r := h
 clear h
 have H' := Aside0.mk H
 clear H
 go_enter Try.func22, Try.ntmps22
 go_wp2
 go_loopg [1, 5] k (fun kq v1 v5 w' => ∃ (x1_1 : Int) (x5_1 : Int), v1 = .int .i64 x1_1 ∧ v5 = .int .i64 x5_1 ∧ Aside0 (laws_heldAskS.l0 kq l0 x1_1 x5_1 = some r) ∧ Aside0 (kq ≤ k) ∧ Drawn0 w w')
 case atStart => exact ⟨(a1), (0), (by first | rfl | (simp; done) | (simp [*]; done)), (by first | rfl | (simp; done) | (simp [*]; done)), H', ⟨Nat.le_refl _⟩, by repeat (first | exact Drawn0.refl _ | apply Drawn0.step)⟩
 case round =>
  clear H'
  try clear c2
  try clear p2
  obtain ⟨x1_1, x5_1, rfl, rfl, HA, HK1, ⟨m1, rfl⟩⟩ := hrel
  cases gk with
  | zero => exact absurd HA.out (by simp [laws_heldAskS.l0])
  | succ k1 =>
   have H := HA.out
   clear HA
   simp only [laws_heldAskS.l0] at H
   by_cases c3 : x5_1 < (l0.length : Int)
   ·rw [if_pos c3] at H
    have c3b0 : decide (x5_1 < (l0.length : Int)) = true := decide_eq_true c3
    clear c3
    by_cases c4 : 0 ≤ x5_1
    ·rw [if_pos c4] at H
     have c4b0 : decide (0 ≤ x5_1) = true := decide_eq_true c4
     clear c4
     by_cases c5 : ((rd_T34 l0 x5_1).f0) = x1_1
     ·rw [if_pos c5] at H
      have c5b0 : (((rd_T34 l0 x5_1).f0) == x1_1) = true := beq_iff_eq.mpr c5
      have c5b1 : (((rd_T34 l0 x5_1).f0) != x1_1) = false := bne_eq_false_iff_eq.mpr c5
      clear c5
      by_cases c6 : ((rd_T34 l0 x5_1).f1) = (wrap64 (x1_1 + 1))
      ·rw [if_pos c6] at H
       have c6b0 : (((rd_T34 l0 x5_1).f1) == (wrap64 (x1_1 + 1))) = true := beq_iff_eq.mpr c6
       have c6b1 : (((rd_T34 l0 x5_1).f1) != (wrap64 (x1_1 + 1))) = false := bne_eq_false_iff_eq.mpr c6
       clear c6
       have H' := Aside0.mk H
       clear H
       have p159 : 0 ≤ (x5_1 : Int) := of_decide_eq_true (by first | (with_reducible assumption) | assumption)
       have q159 : x5_1 < (l0.length : Int) := of_decide_eq_true (by first | (with_reducible assumption) | assumption)
       obtain ⟨ad159, e159, hx159_0, hx159_1⟩ := at_T34 HR0.out x5_1 p159 q159
       cases e159
       replace p159 := eq_true p159
       replace q159 := eq_true q159
       have p160 : 0 ≤ (x5_1 : Int) := of_decide_eq_true (by first | (with_reducible assumption) | assumption)
       have q160 : x5_1 < (l0.length : Int) := of_decide_eq_true (by first | (with_reducible assumption) | assumption)
       obtain ⟨ad160, e160, hx160_0, hx160_1⟩ := at_T34 HR0.out x5_1 p160 q160
       obtain rfl : ad159 = ad160 := (by injection e160)
       replace p160 := eq_true p160
       replace q160 := eq_true q160
       go_wp2
       go_roundg k1
       case measure => have := HK1.out; omega
       case rel => exact ⟨(wrap64 ((wrap64 (x1_1 + 1)) + 1)), (wrap64 (x5_1 + 1)), (by first | rfl | (simp; done) | (simp [*]; done)), (by first | rfl | (simp; done) | (simp [*]; done)), H', ⟨by have := HK1.out; omega⟩, by repeat (first | exact Drawn0.refl _ | apply Drawn0.step)⟩
      ·rw [if_neg c6] at H
       have c6b0 : (((rd_T34 l0 x5_1).f1) == (wrap64 (x1_1 + 1))) = false := beq_eq_false_iff_ne.mpr c6
       have c6b1 : (((rd_T34 l0 x5_1).f1) != (wrap64 (x1_1 + 1))) = true := bne_iff_ne.mpr c6
       obtain rfl := Option.some.inj H
       have p159 : 0 ≤ (x5_1 : Int) := of_decide_eq_true (by first | (with_reducible assumption) | assumption)
       have q159 : x5_1 < (l0.length : Int) := of_decide_eq_true (by first | (with_reducible assumption) | assumption)
       obtain ⟨ad159, e159, hx159_0, hx159_1⟩ := at_T34 HR0.out x5_1 p159 q159
       cases e159
       replace p159 := eq_true p159
       replace q159 := eq_true q159
       have p160 : 0 ≤ (x5_1 : Int) := of_decide_eq_true (by first | (with_reducible assumption) | assumption)
       have q160 : x5_1 < (l0.length : Int) := of_decide_eq_true (by first | (with_reducible assumption) | assumption)
       obtain ⟨ad160, e160, hx160_0, hx160_1⟩ := at_T34 HR0.out x5_1 p160 q160
       obtain rfl : ad159 = ad160 := (by injection e160)
       replace p160 := eq_true p160
       replace q160 := eq_true q160
       go_wp2
       go_ret
       exact ⟨by first | rfl | (simp; done) | (simp [*]; done), by repeat (first | exact Drawn0.refl _ | apply Drawn0.step)⟩
     ·rw [if_neg c5] at H
      have c5b0 : (((rd_T34 l0 x5_1).f0) == x1_1) = false := beq_eq_false_iff_ne.mpr c5
      have c5b1 : (((rd_T34 l0 x5_1).f0) != x1_1) = true := bne_iff_ne.mpr c5
      obtain rfl := Option.some.inj H
      have p159 : 0 ≤ (x5_1 : Int) := of_decide_eq_true (by first | (with_reducible assumption) | assumption)
      have q159 : x5_1 < (l0.length : Int) := of_decide_eq_true (by first | (with_reducible assumption) | assumption)
      obtain ⟨ad159, e159, hx159_0, hx159_1⟩ := at_T34 HR0.out x5_1 p159 q159
      cases e159
      replace p159 := eq_true p159
      replace q159 := eq_true q159
      go_wp2
      go_ret
      exact ⟨by first | rfl | (simp; done) | (simp [*]; done), by repeat (first | exact Drawn0.refl _ | apply Drawn0.step)⟩
    ·rw [if_neg c4] at H
     exact absurd H (by simp)
   ·rw [if_neg c3] at H
    have c3b0 : decide (x5_1 < (l0.length : Int)) = false := decide_eq_false c3
    clear c3
    obtain rfl := Option.some.inj H
    go_wp2
    go_ret
    exact ⟨by first | rfl | (simp; done) | (simp [*]; done), by repeat (first | exact Drawn0.refl _ | apply Drawn0.step)⟩

/-! ### laws_FnExactSortPlan: function 5 -/
mutual
def laws_FnExactSortPlan.j0 : Nat → Int → List Bool → List (S34) → List Int → Bool → List Bool → List (S34) → List Int → Bool → Bool → Option (Bool)
 | 0, _, _, _, _, _, _, _, _, _, _ => none
 | k + 1, x0, x1, x5, x6, x7, x8, x9, x10, x11, x52 => if x52 = true then (none) else ((laws_toBoolS.f k x1).bind fun t183 => ((laws_eqBoolS.f k x8 t183).bind fun t186 => (if t186 = true then ((laws_markBoolS.f k x8 1).bind fun bt187 => (if bt187.1 < 0 then (laws_FnExactSortPlan.j1 k x0 x1 x5 x6 x7 x9 x10 true) else ((laws_eqAskS.f k x9 x5).bind fun t189 => (if t189 = true then ((laws_eqInt64S.f k x10 x6).bind fun t190 => (if t190 = true then (laws_FnExactSortPlan.j1 k x0 x1 x5 x6 x7 x9 x10 (x11 != x7)) else (laws_FnExactSortPlan.j1 k x0 x1 x5 x6 x7 x9 x10 true))) else (laws_FnExactSortPlan.j1 k x0 x1 x5 x6 x7 x9 x10 true))))) else (none))))
def laws_FnExactSortPlan.j1 : Nat → Int → List Bool → List (S34) → List Int → Bool → List (S34) → List Int → Bool → Option (Bool)
 | 0, _, _, _, _, _, _, _, _ => none
 | k + 1, x0, x1, x5, x6, x7, x9, x10, x79 => if x79 = true then (none) else ((laws_markAskS.f k x9 1).bind fun bt191 => ((laws_markInt64S.f k x10 bt191.1).bind fun bt193 => ((laws_heldAskS.f k bt191.2 1).bind fun t195 => (if t195 < 0 then (none) else ((laws_heldInt64S.f k bt193.2 t195).bind fun t196 => (if t196 < 0 then (none) else (if t196 = bt193.1 then ((laws_toBoolS.f k x1).bind fun t197 => ((impl_SortPlan.f x0 t197).bind fun bt200 => ((laws_eqAskS.f k bt200.1 x5).bind fun t207 => (if t207 = true then ((laws_eqInt64S.f k bt200.2.1 x6).bind fun t208 => (if t208 = true then (laws_FnExactSortPlan.j2 k bt191.2 bt193.2 bt193.1 (bt200.2.2 != x7)) else (laws_FnExactSortPlan.j2 k bt191.2 bt193.2 bt193.1 true))) else (laws_FnExactSortPlan.j2 k bt191.2 bt193.2 bt193.1 true))))) else (none))))))))
def laws_FnExactSortPlan.j2 : Nat → List (S34) → List Int → Int → Bool → Option (Bool)
 | 0, _, _, _, _ => none
 | k + 1, x9, x10, x13, x121 => if x121 = true then (none) else ((laws_heldAskS.f k x9 1).bind fun t209 => (if t209 < 0 then (none) else ((laws_heldInt64S.f k x10 t209).bind fun t210 => (if t210 < 0 then (none) else (if t210 = x13 then (some true) else (none))))))
end
def laws_FnExactSortPlan.f (k : Nat) (a0 : Int) (l1 : List Bool) : Option (Bool) := if (l1.length : Int) > 1048576 then (some true) else ((laws_toBoolS.f k l1).bind fun t161 => ((spec_SortPlan.f a0 t161).bind fun bt164 => ((laws_toBoolS.f k l1).bind fun t171 => ((impl_SortPlan.f a0 t171).bind fun bt174 => ((laws_eqAskS.f k bt174.1 bt164.1).bind fun t181 => (if t181 = true then ((laws_eqInt64S.f k bt174.2.1 bt164.2.1).bind fun t182 => (if t182 = true then (laws_FnExactSortPlan.j0 k a0 l1 bt164.1 bt164.2.1 bt164.2.2 t171 bt174.1 bt174.2.1 bt174.2.2 (bt174.2.2 != bt164.2.2)) else (laws_FnExactSortPlan.j0 k a0 l1 bt164.1 bt164.2.1 bt164.2.2 t171 bt174.1 bt174.2.1 bt174.2.2 true))) else (laws_FnExactSortPlan.j0 k a0 l1 bt164.1 bt164.2.1 bt164.2.2 t171 bt174.1 bt174.2.1 bt174.2.2 true)))))))
theorem laws_FnExactSortPlan.mono_l : ∀ k, (∀ y0 y1 y2 y3 y4 y5 y6 y7 y8 y9, LeO (laws_FnExactSortPlan.j0 k y0 y1 y2 y3 y4 y5 y6 y7 y8 y9) (laws_FnExactSortPlan.j0 (k + 1) y0 y1 y2 y3 y4 y5 y6 y7 y8 y9)) ∧ (∀ y0 y1 y2 y3 y4 y5 y6 y7, LeO (laws_FnExactSortPlan.j1 k y0 y1 y2 y3 y4 y5 y6 y7) (laws_FnExactSortPlan.j1 (k + 1) y0 y1 y2 y3 y4 y5 y6 y7)) ∧ (∀ y0 y1 y2 y3, LeO (laws_FnExactSortPlan.j2 k y0 y1 y2 y3) (laws_FnExactSortPlan.j2 (k + 1) y0 y1 y2 y3))
 | 0 => ⟨fun _ _ _ _ _ _ _ _ _ _ r h => by simp [laws_FnExactSortPlan.j0] at h, fun _ _ _ _ _ _ _ _ r h => by simp [laws_FnExactSortPlan.j1] at h, fun _ _ _ _ r h => by simp [laws_FnExactSortPlan.j2] at h⟩
 | k + 1 => by
  obtain ⟨ih0, ih1, ih2⟩ := laws_FnExactSortPlan.mono_l k
  refine ⟨?_, ?_, ?_⟩
  ·intro y0 y1 y2 y3 y4 y5 y6 y7 y8 y9
   unfold laws_FnExactSortPlan.j0
   repeat' first
   | (with_reducible exact ih0 _ _ _ _ _ _ _ _ _ _)
   | (with_reducible exact ih1 _ _ _ _ _ _ _ _)
   | (with_reducible exact ih2 _ _ _ _)
   | (with_reducible exact laws_eqAskS.mono _ _ _)
   | (with_reducible exact laws_eqBoolS.mono _ _ _)
   | (with_reducible exact laws_eqInt64S.mono _ _ _)
   | (with_reducible exact laws_heldAskS.mono _ _ _)
   | (with_reducible exact laws_heldInt64S.mono _ _ _)
   | (with_reducible exact laws_markAskS.mono _ _ _)
   | (with_reducible exact laws_markBoolS.mono _ _ _)
   | (with_reducible exact laws_markInt64S.mono _ _ _)
   | (with_reducible exact laws_toBoolS.mono _ _)
   | (with_reducible exact LeO.refl _)
   | (with_reducible exact LeO.none _)
   | (with_reducible refine LeO.ite ?_ ?_)
   | (with_reducible refine LeO.bind ?_ (fun _ => ?_))
   | exact ih0 _ _ _ _ _ _ _ _ _ _
   | exact ih1 _ _ _ _ _ _ _ _
   | exact ih2 _ _ _ _
   | exact laws_eqAskS.mono _ _ _
   | exact laws_eqBoolS.mono _ _ _
   | exact laws_eqInt64S.mono _ _ _
   | exact laws_heldAskS.mono _ _ _
   | exact laws_heldInt64S.mono _ _ _
   | exact laws_markAskS.mono _ _ _
   | exact laws_markBoolS.mono _ _ _
   | exact laws_markInt64S.mono _ _ _
   | exact laws_toBoolS.mono _ _
   | exact LeO.none _
   | refine LeO.ite ?_ ?_
   | refine LeO.bind ?_ (fun _ => ?_)
  ·intro y0 y1 y2 y3 y4 y5 y6 y7
   unfold laws_FnExactSortPlan.j1
   repeat' first
   | (with_reducible exact ih0 _ _ _ _ _ _ _ _ _ _)
   | (with_reducible exact ih1 _ _ _ _ _ _ _ _)
   | (with_reducible exact ih2 _ _ _ _)
   | (with_reducible exact laws_eqAskS.mono _ _ _)
   | (with_reducible exact laws_eqBoolS.mono _ _ _)
   | (with_reducible exact laws_eqInt64S.mono _ _ _)
   | (with_reducible exact laws_heldAskS.mono _ _ _)
   | (with_reducible exact laws_heldInt64S.mono _ _ _)
   | (with_reducible exact laws_markAskS.mono _ _ _)
   | (with_reducible exact laws_markBoolS.mono _ _ _)
   | (with_reducible exact laws_markInt64S.mono _ _ _)
   | (with_reducible exact laws_toBoolS.mono _ _)
   | (with_reducible exact LeO.refl _)
   | (with_reducible exact LeO.none _)
   | (with_reducible refine LeO.ite ?_ ?_)
   | (with_reducible refine LeO.bind ?_ (fun _ => ?_))
   | exact ih0 _ _ _ _ _ _ _ _ _ _
   | exact ih1 _ _ _ _ _ _ _ _
   | exact ih2 _ _ _ _
   | exact laws_eqAskS.mono _ _ _
   | exact laws_eqBoolS.mono _ _ _
   | exact laws_eqInt64S.mono _ _ _
   | exact laws_heldAskS.mono _ _ _
   | exact laws_heldInt64S.mono _ _ _
   | exact laws_markAskS.mono _ _ _
   | exact laws_markBoolS.mono _ _ _
   | exact laws_markInt64S.mono _ _ _
   | exact laws_toBoolS.mono _ _
   | exact LeO.none _
   | refine LeO.ite ?_ ?_
   | refine LeO.bind ?_ (fun _ => ?_)
  ·intro y0 y1 y2 y3
   unfold laws_FnExactSortPlan.j2
   repeat' first
   | (with_reducible exact ih0 _ _ _ _ _ _ _ _ _ _)
   | (with_reducible exact ih1 _ _ _ _ _ _ _ _)
   | (with_reducible exact ih2 _ _ _ _)
   | (with_reducible exact laws_eqAskS.mono _ _ _)
   | (with_reducible exact laws_eqBoolS.mono _ _ _)
   | (with_reducible exact laws_eqInt64S.mono _ _ _)
   | (with_reducible exact laws_heldAskS.mono _ _ _)
   | (with_reducible exact laws_heldInt64S.mono _ _ _)
   | (with_reducible exact laws_markAskS.mono _ _ _)
   | (with_reducible exact laws_markBoolS.mono _ _ _)
   | (with_reducible exact laws_markInt64S.mono _ _ _)
   | (with_reducible exact laws_toBoolS.mono _ _)
   | (with_reducible exact LeO.refl _)
   | (with_reducible exact LeO.none _)
   | (with_reducible refine LeO.ite ?_ ?_)
   | (with_reducible refine LeO.bind ?_ (fun _ => ?_))
   | exact ih0 _ _ _ _ _ _ _ _ _ _
   | exact ih1 _ _ _ _ _ _ _ _
   | exact ih2 _ _ _ _
   | exact laws_eqAskS.mono _ _ _
   | exact laws_eqBoolS.mono _ _ _
   | exact laws_eqInt64S.mono _ _ _
   | exact laws_heldAskS.mono _ _ _
   | exact laws_heldInt64S.mono _ _ _
   | exact laws_markAskS.mono _ _ _
   | exact laws_markBoolS.mono _ _ _
   | exact laws_markInt64S.mono _ _ _
   | exact laws_toBoolS.mono _ _
   | exact LeO.none _
   | refine LeO.ite ?_ ?_
   | refine LeO.bind ?_ (fun _ => ?_)
theorem laws_FnExactSortPlan.mono : ∀ a0 a1 k, LeO (laws_FnExactSortPlan.f k a0 a1) (laws_FnExactSortPlan.f (k + 1) a0 a1) := by
 intro a0 a1 k
 obtain ⟨ih0, ih1, ih2⟩ := laws_FnExactSortPlan.mono_l k
 unfold laws_FnExactSortPlan.f
 repeat' first
   | (with_reducible exact ih0 _ _ _ _ _ _ _ _ _ _)
   | (with_reducible exact ih1 _ _ _ _ _ _ _ _)
   | (with_reducible exact ih2 _ _ _ _)
   | (with_reducible exact laws_eqAskS.mono _ _ _)
   | (with_reducible exact laws_eqBoolS.mono _ _ _)
   | (with_reducible exact laws_eqInt64S.mono _ _ _)
   | (with_reducible exact laws_heldAskS.mono _ _ _)
   | (with_reducible exact laws_heldInt64S.mono _ _ _)
   | (with_reducible exact laws_markAskS.mono _ _ _)
   | (with_reducible exact laws_markBoolS.mono _ _ _)
   | (with_reducible exact laws_markInt64S.mono _ _ _)
   | (with_reducible exact laws_toBoolS.mono _ _)
   | (with_reducible exact LeO.refl _)
   | (with_reducible exact LeO.none _)
   | (with_reducible refine LeO.ite ?_ ?_)
   | (with_reducible refine LeO.bind ?_ (fun _ => ?_))
   | exact ih0 _ _ _ _ _ _ _ _ _ _
   | exact ih1 _ _ _ _ _ _ _ _
   | exact ih2 _ _ _ _
   | exact laws_eqAskS.mono _ _ _
   | exact laws_eqBoolS.mono _ _ _
   | exact laws_eqInt64S.mono _ _ _
   | exact laws_heldAskS.mono _ _ _
   | exact laws_heldInt64S.mono _ _ _
   | exact laws_markAskS.mono _ _ _
   | exact laws_markBoolS.mono _ _ _
   | exact laws_markInt64S.mono _ _ _
   | exact laws_toBoolS.mono _ _
   | exact LeO.none _
   | refine LeO.ite ?_ ?_
   | refine LeO.bind ?_ (fun _ => ?_)
set_option maxHeartbeats 8000000 in
set_option maxRecDepth 100000 in
theorem laws_FnExactSortPlan.calls (k : Nat) (a0 : Int) (A1 : Option Addr) (c1 : Nat) (l1 : List Bool) (r : Bool) (w : World) (hr1 : Kd.C Kd.bool w A1 l1.length l1) (hc1 : l1.length ≤ c1) (h : laws_FnExactSortPlan.f k a0 l1 = some r) :
  Calls Try.prog 5 #[.int .i64 a0, .slice A1 l1.length c1] w fun e w' => e = .returned (.bool r) ∧ Below w.heap.size w w' := by
 have HR1 := Aside0.mk hr1
 have HC1 := Aside0.mk hc1
 clear hr1 hc1
 have HB := Aside0.mk (Below.refl w.heap.size w)
 have H : (if (l1.length : Int) > 1048576 then (some true) else ((laws_toBoolS.f k l1).bind fun t161 => ((spec_SortPlan.f a0 t161).bind fun bt164 => ((laws_toBoolS.f k l1).bind fun t171 => ((impl_SortPlan.f a0 t171).bind fun bt174 => ((laws_eqAskS.f k bt174.1 bt164.1).bind fun t181 => (if t181 = true then ((laws_eqInt64S.f k bt174.2.1 bt164.2.1).bind fun t182 => (if t182 = true then (laws_FnExactSortPlan.j0 k a0 l1 bt164.1 bt164.2.1 bt164.2.2 t171 bt174.1 bt174.2.1 bt174.2.2 (bt174.2.2 != bt164.2.2)) else (laws_FnExactSortPlan.j0 k a0 l1 bt164.1 bt164.2.1 bt164.2.2 t171 bt174.1 bt174.2.1 bt174.2.2 true))) else (laws_FnExactSortPlan.j0 k a0 l1 bt164.1 bt164.2.1 bt164.2.2 t171 bt174.1 bt174.2.1 bt174.2.2 true)))))))) = some r := h
 clear h
 by_cases c3 : (l1.length : Int) > 1048576
 ·rw [if_pos c3] at H
  have c3b0 : decide (1048576 < (l1.length : Int)) = true := decide_eq_true c3
  have c3b1 : decide (1048576 < l1.length) = true := decide_eq_true (by omega)
  clear c3
  obtain rfl := Option.some.inj H
  go_enter Try.func5, Try.ntmps5
  go_wp2
  go_ret
  exact ⟨by first | rfl | (simp [errW_none, errW_some] <;> rfl) | (simp [*, errW_none, errW_some] <;> rfl), by repeat (first | (with_reducible first | exact HB.out | apply below_alloc | apply pw_below_drewN | apply below_drew1) | exact HB.out)⟩
 ·rw [if_neg c3] at H
  have c3b0 : decide (1048576 < (l1.length : Int)) = false := decide_eq_false c3
  have c3b1 : decide (1048576 < l1.length) = false := decide_eq_false (by omega)
  clear c3
  replace H := Option.bind_eq_some_iff.mp H
  obtain ⟨t161, A40, H⟩ := H
  replace H : ((spec_SortPlan.f a0 t161).bind fun bt164 => ((laws_toBoolS.f k l1).bind fun t171 => ((impl_SortPlan.f a0 t171).bind fun bt174 => ((laws_eqAskS.f k bt174.1 bt164.1).bind fun t181 => (if t181 = true then ((laws_eqInt64S.f k bt174.2.1 bt164.2.1).bind fun t182 => (if t182 = true then (laws_FnExactSortPlan.j0 k a0 l1 bt164.1 bt164.2.1 bt164.2.2 t171 bt174.1 bt174.2.1 bt174.2.2 (bt174.2.2 != bt164.2.2)) else (laws_FnExactSortPlan.j0 k a0 l1 bt164.1 bt164.2.1 bt164.2.2 t171 bt174.1 bt174.2.1 bt174.2.2 true))) else (laws_FnExactSortPlan.j0 k a0 l1 bt164.1 bt164.2.1 bt164.2.2 t171 bt174.1 bt174.2.1 bt174.2.2 true)))))) = some r := H
  have A4 := Aside0.mk A40
  clear A40
  replace H := Option.bind_eq_some_iff.mp H
  obtain ⟨⟨t164, t165, t166⟩, A50, H⟩ := H
  replace H : ((laws_toBoolS.f k l1).bind fun t171 => ((impl_SortPlan.f a0 t171).bind fun bt174 => ((laws_eqAskS.f k bt174.1 t164).bind fun t181 => (if t181 = true then ((laws_eqInt64S.f k bt174.2.1 t165).bind fun t182 => (if t182 = true then (laws_FnExactSortPlan.j0 k a0 l1 t164 t165 t166 t171 bt174.1 bt174.2.1 bt174.2.2 (bt174.2.2 != t166)) else (laws_FnExactSortPlan.j0 k a0 l1 t164 t165 t166 t171 bt174.1 bt174.2.1 bt174.2.2 true))) else (laws_FnExactSortPlan.j0 k a0 l1 t164 t165 t166 t171 bt174.1 bt174.2.1 bt174.2.2 true))))) = some r := H
  have A5 := Aside0.mk A50
  clear A50
  replace H := Option.bind_eq_some_iff.mp H
  obtain ⟨t171, A60, H⟩ := H
  replace H : ((impl_SortPlan.f a0 t171).bind fun bt174 => ((laws_eqAskS.f k bt174.1 t164).bind fun t181 => (if t181 = true then ((laws_eqInt64S.f k bt174.2.1 t165).bind fun t182 => (if t182 = true then (laws_FnExactSortPlan.j0 k a0 l1 t164 t165 t166 t171 bt174.1 bt174.2.1 bt174.2.2 (bt174.2.2 != t166)) else (laws_FnExactSortPlan.j0 k a0 l1 t164 t165 t166 t171 bt174.1 bt174.2.1 bt174.2.2 true))) else (laws_FnExactSortPlan.j0 k a0 l1 t164 t165 t166 t171 bt174.1 bt174.2.1 bt174.2.2 true)))) = some r := H
  have A6 := Aside0.mk A60
  clear A60
  replace H := Option.bind_eq_some_iff.mp H
  obtain ⟨⟨t174, t175, t176⟩, A70, H⟩ := H
  replace H : ((laws_eqAskS.f k t174 t164).bind fun t181 => (if t181 = true then ((laws_eqInt64S.f k t175 t165).bind fun t182 => (if t182 = true then (laws_FnExactSortPlan.j0 k a0 l1 t164 t165 t166 t171 t174 t175 t176 (t176 != t166)) else (laws_FnExactSortPlan.j0 k a0 l1 t164 t165 t166 t171 t174 t175 t176 true))) else (laws_FnExactSortPlan.j0 k a0 l1 t164 t165 t166 t171 t174 t175 t176 true))) = some r := H
  have A7 := Aside0.mk A70
  clear A70
  have HC8 := Aside0.mk H
  clear H
  go_enter Try.func5, Try.ntmps5
  go_upto_region 6 with (first | ((with_reducible refine gate_callee (f := 17) rfl ?_); refine goesL_ (some 24) rfl rfl Try.func17 (by kernel_rfl) rfl #[.slice A1 l1.length c1] rfl (by (try simp only [List.map_toArray, List.map_cons, List.map_nil]); first | done | rfl | (simp only [List.length_drop, List.length_take]; rfl)) ?_; (with_reducible refine (laws_toBoolS.calls k _ _ l1 t161 _ ?side1 ?side2 A4.out).mono ?_); (case side1 => repeat (first | exact HR1.out | (with_reducible refine Kd.C_alloc ?_ _) | (with_reducible refine Kd.C_drewN ?_ _) | (with_reducible refine Kd.C_drew ?_))); (case side2 => exact HC1.out); rintro e w9 ⟨v162, rfl, ho0, hb⟩; refine ⟨_, rfl, ?_⟩; have n0_ := Aside0.mk (Kd.R_lower ho0 (below_size (by repeat (first | (with_reducible first | exact HB.out | apply below_alloc | apply pw_below_drewN | apply below_drew1) | exact HB.out)))); have n1_ := Aside0.mk (below_step (by repeat (first | (with_reducible first | exact HB.out | apply below_alloc | apply pw_below_drewN | apply below_drew1) | exact HB.out)) hb); clear HB; have HO163 := n0_; have HB := n1_; clear n0_ n1_; (try clear hb); (try clear hb2); (try clear hk); (try clear hi); (try clear ho0); obtain ⟨Ao10, co10, eo10⟩ := Kd.R_slice HO163.out; subst eo10) | ((with_reducible refine gate_callee (f := 16) rfl ?_); refine goesL_ (some 25) rfl rfl Try.func16 (by kernel_rfl) rfl #[.int .i64 a0, .slice Ao10 t161.length co10] rfl (by (try simp only [List.map_toArray, List.map_cons, List.map_nil]); first | done | rfl | (simp only [List.length_drop, List.length_take]; rfl)) ?_; (with_reducible refine (spec_SortPlan.calls a0 _ _ t161 t164 t165 t166 _ ?side1 ?side2 A5.out).mono ?_); (case side1 => repeat (first | exact (Kd.R_reads' HO163.out).2.2 | (with_reducible refine Kd.C_alloc ?_ _) | (with_reducible refine Kd.C_drewN ?_ _) | (with_reducible refine Kd.C_drew ?_))); (case side2 => exact (Kd.R_reads' HO163.out).2.1); rintro e w11 ⟨v167, v169, rfl, ho0, ho1, hb⟩; refine ⟨_, rfl, ?_⟩; have n0_ := Aside0.mk (Kd.R_below (by (with_reducible repeat (first | apply Kd.R_alloc | apply Kd.R_drewN | apply Kd.R_drew)); exact HO163.out) hb); have n1_ := Aside0.mk (Kd.R_lower ho0 (below_size (by repeat (first | (with_reducible first | exact HB.out | apply below_alloc | apply pw_below_drewN | apply below_drew1) | exact HB.out)))); have n2_ := Aside0.mk (Kd.R_lower ho1 (below_size (by repeat (first | (with_reducible first | exact HB.out | apply below_alloc | apply pw_below_drewN | apply below_drew1) | exact HB.out)))); have n3_ := Aside0.mk (below_step (by repeat (first | (with_reducible first | exact HB.out | apply below_alloc | apply pw_below_drewN | apply below_drew1) | exact HB.out)) hb); clear HO163; clear HB; have HO163 := n0_; have HO168 := n1_; have HO170 := n2_; have HB := n3_; clear n0_ n1_ n2_ n3_; (try clear hb); (try clear hb2); (try clear hk); (try clear hi); (try clear ho0); (try clear ho1)) | ((with_reducible refine gate_callee (f := 17) rfl ?_); refine goesL_ (some 30) rfl rfl Try.func17 (by kernel_rfl) rfl #[.slice A1 l1.length c1] rfl (by (try simp only [List.map_toArray, List.map_cons, List.map_nil]); first | done | rfl | (simp only [List.length_drop, List.length_take]; rfl)) ?_; (with_reducible refine (laws_toBoolS.calls k _ _ l1 t171 _ ?side1 ?side2 A6.out).mono ?_); (case side1 => repeat (first | exact (Kd.C_below HR1.out HB.out) | (with_reducible refine Kd.C_alloc ?_ _) | (with_reducible refine Kd.C_drewN ?_ _) | (with_reducible refine Kd.C_drew ?_))); (case side2 => exact HC1.out); rintro e w12 ⟨v172, rfl, ho0, hb⟩; refine ⟨_, rfl, ?_⟩; have n0_ := Aside0.mk (Kd.R_elder' (by (with_reducible repeat (first | apply Kd.R_alloc | apply Kd.R_drewN | apply Kd.R_drew)); exact HO163.out) (Kd.R_base ho0) hb); have n1_ := Aside0.mk (Kd.R_below (by (with_reducible repeat (first | apply Kd.R_alloc | apply Kd.R_drewN | apply Kd.R_drew)); exact HO168.out) hb); have n2_ := Aside0.mk (Kd.R_below (by (with_reducible repeat (first | apply Kd.R_alloc | apply Kd.R_drewN | apply Kd.R_drew)); exact HO170.out) hb); have n3_ := Aside0.mk (Kd.R_lower (Kd.R_new' ho0 (Kd.R_lt (by (with_reducible repeat (first | apply Kd.R_alloc | apply Kd.R_drewN | apply Kd.R_drew)); exact HO163.out))) (below_size (by repeat (first | (with_reducible first | exact HB.out | apply below_alloc | apply pw_below_drewN | apply below_drew1) | exact HB.out)))); have n4_ := Aside0.mk (below_step (by repeat (first | (with_reducible first | exact HB.out | apply below_alloc | apply pw_below_drewN | apply below_drew1) | exact HB.out)) hb); clear HO163; clear HO168; clear HO170; clear HB; have HO163 := n0_; have HO168 := n1_; have HO170 := n2_; have HO173 := n3_; have HB := n4_; clear n0_ n1_ n2_ n3_ n4_; (try clear hb); (try clear hb2); (try clear hk); (try clear hi); (try clear ho0); obtain ⟨Ao13, co13, eo13⟩ := Kd.R_slice HO173.out; subst eo13) | ((with_reducible refine gate_callee (f := 9) rfl ?_); refine goesL_ (some 34) rfl rfl Try.func9 (by kernel_rfl) rfl #[.int .i64 a0, .slice Ao13 t171.length co13] rfl (by (try simp only [List.map_toArray, List.map_cons, List.map_nil]); first | done | rfl | (simp only [List.length_drop, List.length_take]; rfl)) ?_; (with_reducible refine (impl_SortPlan.calls a0 _ _ t171 t174 t175 t176 _ ?side1 ?side2 A7.out).mono ?_); (case side1 => repeat (first | exact (Kd.R_reads' HO173.out).2.2 | (with_reducible refine Kd.C_alloc ?_ _) | (with_reducible refine Kd.C_drewN ?_ _) | (with_reducible refine Kd.C_drew ?_))); (case side2 => exact (Kd.R_reads' HO173.out).2.1); rintro e w14 ⟨v177, v179, rfl, ho0, ho1, hb⟩; refine ⟨_, rfl, ?_⟩; have n0_ := Aside0.mk (Kd.R_below (by (with_reducible repeat (first | apply Kd.R_alloc | apply Kd.R_drewN | apply Kd.R_drew)); exact HO163.out) hb); have n1_ := Aside0.mk (Kd.R_elder' (by (with_reducible repeat (first | apply Kd.R_alloc | apply Kd.R_drewN | apply Kd.R_drew)); exact HO168.out) (Kd.R_base ho0) hb); have n2_ := Aside0.mk (Kd.R_elder' (by (with_reducible repeat (first | apply Kd.R_alloc | apply Kd.R_drewN | apply Kd.R_drew)); exact HO170.out) (Kd.R_base ho1) hb); have n3_ := Aside0.mk (Kd.R_below (by (with_reducible repeat (first | apply Kd.R_alloc | apply Kd.R_drewN | apply Kd.R_drew)); exact HO173.out) hb); have n4_ := Aside0.mk (Kd.R_lower (Kd.R_new' ho0 (Kd.R_lt (by (with_reducible repeat (first | apply Kd.R_alloc | apply Kd.R_drewN | apply Kd.R_drew)); exact HO168.out))) (below_size (by repeat (first | (with_reducible first | exact HB.out | apply below_alloc | apply pw_below_drewN | apply below_drew1) | exact HB.out)))); have n5_ := Aside0.mk (Kd.R_lower (Kd.R_new' ho1 (Kd.R_lt (by (with_reducible repeat (first | apply Kd.R_alloc | apply Kd.R_drewN | apply Kd.R_drew)); exact HO170.out))) (below_size (by repeat (first | (with_reducible first | exact HB.out | apply below_alloc | apply pw_below_drewN | apply below_drew1) | exact HB.out)))); have n6_ := Aside0.mk (below_step (by repeat (first | (with_reducible first | exact HB.out | apply below_alloc | apply pw_below_drewN | apply below_drew1) | exact HB.out)) hb); clear HO163; clear HO168; clear HO170; clear HO173; clear HB; have HO163 := n0_; have HO168 := n1_; have HO170 := n2_; have HO173 := n3_; have HO178 := n4_; have HO180 := n5_; have HB := n6_; clear n0_ n1_ n2_ n3_ n4_ n5_ n6_; (try clear hb); (try clear hb2); (try clear hk); (try clear hi); (try clear ho0); (try clear ho1)))
  (try simp only [Act.put, List.setIfInBounds_toArray, List.set_cons_zero, List.set_cons_succ])
  go_cut [52] (fun v52 wc => ∃ (kq : Nat) (x52_7 : Bool), v52 = .bool x52_7 ∧ Aside0 (laws_FnExactSortPlan.j0 kq a0 l1 t164 t165 t166 t171 t174 t175 t176 x52_7 = some r) ∧ Aside0 (kq ≤ k) ∧ Aside0 (Kd.R k34 34 wc w.heap.size (fun k_ => some k_ ≠ (v177 : Value).ownBlock) v167 t164) ∧ Aside0 (Kd.R (Kd.int .i64) 2 wc w.heap.size (fun k_ => some k_ ≠ (v179 : Value).ownBlock) v169 t165) ∧ Aside0 (Kd.R Kd.bool 4 wc w.heap.size (fun _ => True) (.slice Ao13 t171.length co13) t171) ∧ Aside0 (Kd.R k34 34 wc w.heap.size (fun k_ => some k_ ≠ (v167 : Value).ownBlock) v177 t174) ∧ Aside0 (Kd.R (Kd.int .i64) 2 wc w.heap.size (fun k_ => some k_ ≠ (v169 : Value).ownBlock) v179 t175) ∧ Aside0 (Below w.heap.size w wc))
  case first =>
   have H := HC8.out
   clear HC8
   replace H := Option.bind_eq_some_iff.mp H
   obtain ⟨t181, A150, H⟩ := H
   replace H : (if t181 = true then ((laws_eqInt64S.f k t175 t165).bind fun t182 => (if t182 = true then (laws_FnExactSortPlan.j0 k a0 l1 t164 t165 t166 t171 t174 t175 t176 (t176 != t166)) else (laws_FnExactSortPlan.j0 k a0 l1 t164 t165 t166 t171 t174 t175 t176 true))) else (laws_FnExactSortPlan.j0 k a0 l1 t164 t165 t166 t171 t174 t175 t176 true)) = some r := H
   have A15 := Aside0.mk A150
   clear A150
   by_cases c16 : t181 = true
   ·subst c16
    have H1 : ((laws_eqInt64S.f k t175 t165).bind fun t182 => (if t182 = true then (laws_FnExactSortPlan.j0 k a0 l1 t164 t165 t166 t171 t174 t175 t176 (t176 != t166)) else (laws_FnExactSortPlan.j0 k a0 l1 t164 t165 t166 t171 t174 t175 t176 true))) = some r := by rw [if_pos rfl] at H; exact H
    clear H
    have H := H1
    clear H1
    replace H := Option.bind_eq_some_iff.mp H
    obtain ⟨t182, A170, H⟩ := H
    replace H : (if t182 = true then (laws_FnExactSortPlan.j0 k a0 l1 t164 t165 t166 t171 t174 t175 t176 (t176 != t166)) else (laws_FnExactSortPlan.j0 k a0 l1 t164 t165 t166 t171 t174 t175 t176 true)) = some r := H
    have A17 := Aside0.mk A170
    clear A170
    by_cases c18 : t182 = true
    ·subst c18
     have H1 : (laws_FnExactSortPlan.j0 k a0 l1 t164 t165 t166 t171 t174 t175 t176 (t176 != t166)) = some r := by rw [if_pos rfl] at H; exact H
     clear H
     have H := H1
     clear H1
     have H' := Aside0.mk H
     clear H
     obtain ⟨Ao19, co19, eo19⟩ := Kd.R_slice HO178.out
     subst eo19
     obtain ⟨Ao20, co20, eo20⟩ := Kd.R_slice HO168.out
     subst eo20
     go_wp2_with (first | ((with_reducible refine gate_callee (f := 18) rfl ?_); refine goesL_ (some 40) rfl rfl Try.func18 (by kernel_rfl) rfl #[.slice Ao19 t174.length co19, .slice Ao20 t164.length co20] rfl (by (try simp only [List.map_toArray, List.map_cons, List.map_nil]); first | done | rfl | (simp only [List.length_drop, List.length_take]; rfl)) ?_; (with_reducible refine (laws_eqAskS.calls k _ _ t174 _ _ t164 true _ ?side1 ?side2 ?side3 ?side4 A15.out).mono ?_); (case side1 => repeat (first | exact (Kd.R_reads' HO178.out).2.2 | (with_reducible refine Kd.C_alloc ?_ _) | (with_reducible refine Kd.C_drewN ?_ _) | (with_reducible refine Kd.C_drew ?_))); (case side2 => exact (Kd.R_reads' HO178.out).2.1); (case side3 => repeat (first | exact (Kd.R_reads' HO168.out).2.2 | (with_reducible refine Kd.C_alloc ?_ _) | (with_reducible refine Kd.C_drewN ?_ _) | (with_reducible refine Kd.C_drew ?_))); (case side4 => exact (Kd.R_reads' HO168.out).2.1); rintro e w21 ⟨rfl, hb⟩; refine ⟨_, rfl, ?_⟩; have n0_ := Aside0.mk (Kd.R_below (by (with_reducible repeat (first | apply Kd.R_alloc | apply Kd.R_drewN | apply Kd.R_drew)); exact HO163.out) hb); have n1_ := Aside0.mk (Kd.R_below (by (with_reducible repeat (first | apply Kd.R_alloc | apply Kd.R_drewN | apply Kd.R_drew)); exact HO168.out) hb); have n2_ := Aside0.mk (Kd.R_below (by (with_reducible repeat (first | apply Kd.R_alloc | apply Kd.R_drewN | apply Kd.R_drew)); exact HO170.out) hb); have n3_ := Aside0.mk (Kd.R_below (by (with_reducible repeat (first | apply Kd.R_alloc | apply Kd.R_drewN | apply Kd.R_drew)); exact HO173.out) hb); have n4_ := Aside0.mk (Kd.R_below (by (with_reducible repeat (first | apply Kd.R_alloc | apply Kd.R_drewN | apply Kd.R_drew)); exact HO178.out) hb); have n5_ := Aside0.mk (Kd.R_below (by (with_reducible repeat (first | apply Kd.R_alloc | apply Kd.R_drewN | apply Kd.R_drew)); exact HO180.out) hb); have n6_ := Aside0.mk (below_step (by repeat (first | (with_reducible first | exact HB.out | apply below_alloc | apply pw_below_drewN | apply below_drew1) | exact HB.out)) hb); clear HO163; clear HO168; clear HO170; clear HO173; clear HO178; clear HO180; clear HB; have HO163 := n0_; have HO168 := n1_; have HO170 := n2_; have HO173 := n3_; have HO178 := n4_; have HO180 := n5_; have HB := n6_; clear n0_ n1_ n2_ n3_ n4_ n5_ n6_; (try clear hb); (try clear hb2); (try clear hk); (try clear hi); obtain ⟨Ao22, co22, eo22⟩ := Kd.R_slice HO180.out; subst eo22; obtain ⟨Ao23, co23, eo23⟩ := Kd.R_slice HO170.out; subst eo23) | (go_at_call 13; (with_reducible refine (laws_eqInt64S.calls k _ _ t175 _ _ t165 true _ ?side1 ?side2 ?side3 ?side4 A17.out).mono ?_); (case side1 => repeat (first | exact (Kd.R_reads' HO180.out).2.2 | (with_reducible refine Kd.C_alloc ?_ _) | (with_reducible refine Kd.C_drewN ?_ _) | (with_reducible refine Kd.C_drew ?_))); (case side2 => exact (Kd.R_reads' HO180.out).2.1); (case side3 => repeat (first | exact (Kd.R_reads' HO170.out).2.2 | (with_reducible refine Kd.C_alloc ?_ _) | (with_reducible refine Kd.C_drewN ?_ _) | (with_reducible refine Kd.C_drew ?_))); (case side4 => exact (Kd.R_reads' HO170.out).2.1); rintro e w' ⟨rfl, ⟨nd, rfl⟩⟩))
     go_meet
     case rel => exact ⟨_, ((t176 != t166)), (by first | rfl | (simp; done) | (simp [*]; done)), H', ⟨by first | omega | exact Nat.le_refl _⟩, ⟨by (with_reducible repeat (first | apply Kd.R_alloc | apply Kd.R_drewN | apply Kd.R_drew)); exact Kd.R_mono HO168.out (fun _ hk => hk.2)⟩, ⟨by (with_reducible repeat (first | apply Kd.R_alloc | apply Kd.R_drewN | apply Kd.R_drew)); exact Kd.R_mono HO170.out (fun _ hk => hk.2)⟩, ⟨by (with_reducible repeat (first | apply Kd.R_alloc | apply Kd.R_drewN | apply Kd.R_drew)); exact Kd.R_mono HO173.out (fun _ hk => trivial)⟩, ⟨by (with_reducible repeat (first | apply Kd.R_alloc | apply Kd.R_drewN | apply Kd.R_drew)); exact Kd.R_mono HO178.out (fun _ hk => hk.2)⟩, ⟨by (with_reducible repeat (first | apply Kd.R_alloc | apply Kd.R_drewN | apply Kd.R_drew)); exact Kd.R_mono HO180.out (fun _ hk => hk.2)⟩, ⟨by repeat (first | (with_reducible first | exact HB.out | apply below_alloc | apply pw_below_drewN | apply below_drew1) | exact HB.out)⟩⟩
    ·replace c18 := Bool.eq_false_iff.mpr c18
     subst c18
     have H1 : (laws_FnExactSortPlan.j0 k a0 l1 t164 t165 t166 t171 t174 t175 t176 true) = some r := by rw [if_neg (show ¬ (false = true) by decide)] at H; exact H
     clear H
     have H := H1
     clear H1
     have H' := Aside0.mk H
     clear H
     obtain ⟨Ao24, co24, eo24⟩ := Kd.R_slice HO178.out
     subst eo24
     obtain ⟨Ao25, co25, eo25⟩ := Kd.R_slice HO168.out
     subst eo25
     go_wp2_with (first | ((with_reducible refine gate_callee (f := 18) rfl ?_); refine goesL_ (some 40) rfl rfl Try.func18 (by kernel_rfl) rfl #[.slice Ao24 t174.length co24, .slice Ao25 t164.length co25] rfl (by (try simp only [List.map_toArray, List.map_cons, List.map_nil]); first | done | rfl | (simp only [List.length_drop, List.length_take]; rfl)) ?_; (with_reducible refine (laws_eqAskS.calls k _ _ t174 _ _ t164 true _ ?side1 ?side2 ?side3 ?side4 A15.out).mono ?_); (case side1 => repeat (first | exact (Kd.R_reads' HO178.out).2.2 | (with_reducible refine Kd.C_alloc ?_ _) | (with_reducible refine Kd.C_drewN ?_ _) | (with_reducible refine Kd.C_drew ?_))); (case side2 => exact (Kd.R_reads' HO178.out).2.1); (case side3 => repeat (first | exact (Kd.R_reads' HO168.out).2.2 | (with_reducible refine Kd.C_alloc ?_ _) | (with_reducible refine Kd.C_drewN ?_ _) | (with_reducible refine Kd.C_drew ?_))); (case side4 => exact (Kd.R_reads' HO168.out).2.1); rintro e w26 ⟨rfl, hb⟩; refine ⟨_, rfl, ?_⟩; have n0_ := Aside0.mk (Kd.R_below (by (with_reducible repeat (first | apply Kd.R_alloc | apply Kd.R_drewN | apply Kd.R_drew)); exact HO163.out) hb); have n1_ := Aside0.mk (Kd.R_below (by (with_reducible repeat (first | apply Kd.R_alloc | apply Kd.R_drewN | apply Kd.R_drew)); exact HO168.out) hb); have n2_ := Aside0.mk (Kd.R_below (by (with_reducible repeat (first | apply Kd.R_alloc | apply Kd.R_drewN | apply Kd.R_drew)); exact HO170.out) hb); have n3_ := Aside0.mk (Kd.R_below (by (with_reducible repeat (first | apply Kd.R_alloc | apply Kd.R_drewN | apply Kd.R_drew)); exact HO173.out) hb); have n4_ := Aside0.mk (Kd.R_below (by (with_reducible repeat (first | apply Kd.R_alloc | apply Kd.R_drewN | apply Kd.R_drew)); exact HO178.out) hb); have n5_ := Aside0.mk (Kd.R_below (by (with_reducible repeat (first | apply Kd.R_alloc | apply Kd.R_drewN | apply Kd.R_drew)); exact HO180.out) hb); have n6_ := Aside0.mk (below_step (by repeat (first | (with_reducible first | exact HB.out | apply below_alloc | apply pw_below_drewN | apply below_drew1) | exact HB.out)) hb); clear HO163; clear HO168; clear HO170; clear HO173; clear HO178; clear HO180; clear HB; have HO163 := n0_; have HO168 := n1_; have HO170 := n2_; have HO173 := n3_; have HO178 := n4_; have HO180 := n5_; have HB := n6_; clear n0_ n1_ n2_ n3_ n4_ n5_ n6_; (try clear hb); (try clear hb2); (try clear hk); (try clear hi); obtain ⟨Ao27, co27, eo27⟩ := Kd.R_slice HO180.out; subst eo27; obtain ⟨Ao28, co28, eo28⟩ := Kd.R_slice HO170.out; subst eo28) | (go_at_call 13; (with_reducible refine (laws_eqInt64S.calls k _ _ t175 _ _ t165 false _ ?side1 ?side2 ?side3 ?side4 A17.out).mono ?_); (case side1 => repeat (first | exact (Kd.R_reads' HO180.out).2.2 | (with_reducible refine Kd.C_alloc ?_ _) | (with_reducible refine Kd.C_drewN ?_ _) | (with_reducible refine Kd.C_drew ?_))); (case side2 => exact (Kd.R_reads' HO180.out).2.1); (case side3 => repeat (first | exact (Kd.R_reads' HO170.out).2.2 | (with_reducible refine Kd.C_alloc ?_ _) | (with_reducible refine Kd.C_drewN ?_ _) | (with_reducible refine Kd.C_drew ?_))); (case side4 => exact (Kd.R_reads' HO170.out).2.1); rintro e w' ⟨rfl, ⟨nd, rfl⟩⟩))
     go_meet
     case rel => exact ⟨_, (true), (by first | rfl | (simp; done) | (simp [*]; done)), H', ⟨by first | omega | exact Nat.le_refl _⟩, ⟨by (with_reducible repeat (first | apply Kd.R_alloc | apply Kd.R_drewN | apply Kd.R_drew)); exact Kd.R_mono HO168.out (fun _ hk => hk.2)⟩, ⟨by (with_reducible repeat (first | apply Kd.R_alloc | apply Kd.R_drewN | apply Kd.R_drew)); exact Kd.R_mono HO170.out (fun _ hk => hk.2)⟩, ⟨by (with_reducible repeat (first | apply Kd.R_alloc | apply Kd.R_drewN | apply Kd.R_drew)); exact Kd.R_mono HO173.out (fun _ hk => trivial)⟩, ⟨by (with_reducible repeat (first | apply Kd.R_alloc | apply Kd.R_drewN | apply Kd.R_drew)); exact Kd.R_mono HO178.out (fun _ hk => hk.2)⟩, ⟨by (with_reducible repeat (first | apply Kd.R_alloc | apply Kd.R_drewN | apply Kd.R_drew)); exact Kd.R_mono HO180.out (fun _ hk => hk.2)⟩, ⟨by repeat (first | (with_reducible first | exact HB.out | apply below_alloc | apply pw_below_drewN | apply below_drew1) | exact HB.out)⟩⟩
   ·replace c16 := Bool.eq_false_iff.mpr c16
    subst c16
    have H1 : (laws_FnExactSortPlan.j0 k a0 l1 t164 t165 t166 t171 t174 t175 t176 true) = some r := by rw [if_neg (show ¬ (false = true) by decide)] at H; exact H
    clear H
    have H := H1
    clear H1
    have H' := Aside0.mk H
    clear H
    obtain ⟨Ao29, co29, eo29⟩ := Kd.R_slice HO178.out
    subst eo29
    obtain ⟨Ao30, co30, eo30⟩ := Kd.R_slice HO168.out
    subst eo30
    go_wp2_with (first | ((with_reducible refine gate_callee (f := 18) rfl ?_); refine goesL_ (some 40) rfl rfl Try.func18 (by kernel_rfl) rfl #[.slice Ao29 t174.length co29, .slice Ao30 t164.length co30] rfl (by (try simp only [List.map_toArray, List.map_cons, List.map_nil]); first | done | rfl | (simp only [List.length_drop, List.length_take]; rfl)) ?_; (with_reducible refine (laws_eqAskS.calls k _ _ t174 _ _ t164 false _ ?side1 ?side2 ?side3 ?side4 A15.out).mono ?_); (case side1 => repeat (first | exact (Kd.R_reads' HO178.out).2.2 | (with_reducible refine Kd.C_alloc ?_ _) | (with_reducible refine Kd.C_drewN ?_ _) | (with_reducible refine Kd.C_drew ?_))); (case side2 => exact (Kd.R_reads' HO178.out).2.1); (case side3 => repeat (first | exact (Kd.R_reads' HO168.out).2.2 | (with_reducible refine Kd.C_alloc ?_ _) | (with_reducible refine Kd.C_drewN ?_ _) | (with_reducible refine Kd.C_drew ?_))); (case side4 => exact (Kd.R_reads' HO168.out).2.1); rintro e w31 ⟨rfl, hb⟩; refine ⟨_, rfl, ?_⟩; have n0_ := Aside0.mk (Kd.R_below (by (with_reducible repeat (first | apply Kd.R_alloc | apply Kd.R_drewN | apply Kd.R_drew)); exact HO163.out) hb); have n1_ := Aside0.mk (Kd.R_below (by (with_reducible repeat (first | apply Kd.R_alloc | apply Kd.R_drewN | apply Kd.R_drew)); exact HO168.out) hb); have n2_ := Aside0.mk (Kd.R_below (by (with_reducible repeat (first | apply Kd.R_alloc | apply Kd.R_drewN | apply Kd.R_drew)); exact HO170.out) hb); have n3_ := Aside0.mk (Kd.R_below (by (with_reducible repeat (first | apply Kd.R_alloc | apply Kd.R_drewN | apply Kd.R_drew)); exact HO173.out) hb); have n4_ := Aside0.mk (Kd.R_below (by (with_reducible repeat (first | apply Kd.R_alloc | apply Kd.R_drewN | apply Kd.R_drew)); exact HO178.out) hb); have n5_ := Aside0.mk (Kd.R_below (by (with_reducible repeat (first | apply Kd.R_alloc | apply Kd.R_drewN | apply Kd.R_drew)); exact HO180.out) hb); have n6_ := Aside0.mk (below_step (by repeat (first | (with_reducible first | exact HB.out | apply below_alloc | apply pw_below_drewN | apply below_drew1) | exact HB.out)) hb); clear HO163; clear HO168; clear HO170; clear HO173; clear HO178; clear HO180; clear HB; have HO163 := n0_; have HO168 := n1_; have HO170 := n2_; have HO173 := n3_; have HO178 := n4_; have HO180 := n5_; have HB := n6_; clear n0_ n1_ n2_ n3_ n4_ n5_ n6_; (try clear hb); (try clear hb2); (try clear hk); (try clear hi)))
    go_meet
    case rel => exact ⟨_, (true), (by first | rfl | (simp; done) | (simp [*]; done)), H', ⟨by first | omega | exact Nat.le_refl _⟩, ⟨by (with_reducible repeat (first | apply Kd.R_alloc | apply Kd.R_drewN | apply Kd.R_drew)); exact Kd.R_mono HO168.out (fun _ hk => hk.2)⟩, ⟨by (with_reducible repeat (first | apply Kd.R_alloc | apply Kd.R_drewN | apply Kd.R_drew)); exact Kd.R_mono HO170.out (fun _ hk => hk.2)⟩, ⟨by (with_reducible repeat (first | apply Kd.R_alloc | apply Kd.R_drewN | apply Kd.R_drew)); exact Kd.R_mono HO173.out (fun _ hk => trivial)⟩, ⟨by (with_reducible repeat (first | apply Kd.R_alloc | apply Kd.R_drewN | apply Kd.R_drew)); exact Kd.R_mono HO178.out (fun _ hk => hk.2)⟩, ⟨by (with_reducible repeat (first | apply Kd.R_alloc | apply Kd.R_drewN | apply Kd.R_drew)); exact Kd.R_mono HO180.out (fun _ hk => hk.2)⟩, ⟨by repeat (first | (with_reducible first | exact HB.out | apply below_alloc | apply pw_below_drewN | apply below_drew1) | exact HB.out)⟩⟩
  case rest =>
   clear HC8
   try clear c1
   try clear p2
   try clear c3
   try clear c3b0
   try clear c3b1
   try clear c5
   try clear c9
   try clear c16
   try clear c17
   try clear c18
   obtain ⟨kq, x52_7, rfl, HA, HJ7, HO_5, HO_6, HO_8, HO_9, HO_10, HB⟩ := hcut
   cases kq with
   | zero => exact absurd HA.out (by simp [laws_FnExactSortPlan.j0])
   | succ kj7 =>
    have H := HA.out
    clear HA
    simp only [laws_FnExactSortPlan.j0] at H
    by_cases c32 : x52_7 = true
    ·subst c32
     have H1 : (none) = some r := by rw [if_pos rfl] at H; exact H
     clear H
     have H := H1
     clear H1
     exact absurd H (by simp)
    ·replace c32 := Bool.eq_false_iff.mpr c32
     subst c32
     have H1 : ((laws_toBoolS.f kj7 l1).bind fun t183 => ((laws_eqBoolS.f kj7 t171 t183).bind fun t186 => (if t186 = true then ((laws_markBoolS.f kj7 t171 1).bind fun bt187 => (if bt187.1 < 0 then (laws_FnExactSortPlan.j1 kj7 a0 l1 t164 t165 t166 t174 t175 true) else ((laws_eqAskS.f kj7 t174 t164).bind fun t189 => (if t189 = true then ((laws_eqInt64S.f kj7 t175 t165).bind fun t190 => (if t190 = true then (laws_FnExactSortPlan.j1 kj7 a0 l1 t164 t165 t166 t174 t175 (t176 != t166)) else (laws_FnExactSortPlan.j1 kj7 a0 l1 t164 t165 t166 t174 t175 true))) else (laws_FnExactSortPlan.j1 kj7 a0 l1 t164 t165 t166 t174 t175 true))))) else (none)))) = some r := by rw [if_neg (show ¬ (false = true) by decide)] at H; exact H
     clear H
     have H := H1
     clear H1
     replace H := Option.bind_eq_some_iff.mp H
     obtain ⟨t183, A330, H⟩ := H
     replace H : ((laws_eqBoolS.f kj7 t171 t183).bind fun t186 => (if t186 = true then ((laws_markBoolS.f kj7 t171 1).bind fun bt187 => (if bt187.1 < 0 then (laws_FnExactSortPlan.j1 kj7 a0 l1 t164 t165 t166 t174 t175 true) else ((laws_eqAskS.f kj7 t174 t164).bind fun t189 => (if t189 = true then ((laws_eqInt64S.f kj7 t175 t165).bind fun t190 => (if t190 = true then (laws_FnExactSortPlan.j1 kj7 a0 l1 t164 t165 t166 t174 t175 (t176 != t166)) else (laws_FnExactSortPlan.j1 kj7 a0 l1 t164 t165 t166 t174 t175 true))) else (laws_FnExactSortPlan.j1 kj7 a0 l1 t164 t165 t166 t174 t175 true))))) else (none))) = some r := H
     have A33 := Aside0.mk A330
     clear A330
     replace H := Option.bind_eq_some_iff.mp H
     obtain ⟨t186, A340, H⟩ := H
     replace H : (if t186 = true then ((laws_markBoolS.f kj7 t171 1).bind fun bt187 => (if bt187.1 < 0 then (laws_FnExactSortPlan.j1 kj7 a0 l1 t164 t165 t166 t174 t175 true) else ((laws_eqAskS.f kj7 t174 t164).bind fun t189 => (if t189 = true then ((laws_eqInt64S.f kj7 t175 t165).bind fun t190 => (if t190 = true then (laws_FnExactSortPlan.j1 kj7 a0 l1 t164 t165 t166 t174 t175 (t176 != t166)) else (laws_FnExactSortPlan.j1 kj7 a0 l1 t164 t165 t166 t174 t175 true))) else (laws_FnExactSortPlan.j1 kj7 a0 l1 t164 t165 t166 t174 t175 true))))) else (none)) = some r := H
     have A34 := Aside0.mk A340
     clear A340
     by_cases c35 : t186 = true
     ·subst c35
      have H1 : ((laws_markBoolS.f kj7 t171 1).bind fun bt187 => (if bt187.1 < 0 then (laws_FnExactSortPlan.j1 kj7 a0 l1 t164 t165 t166 t174 t175 true) else ((laws_eqAskS.f kj7 t174 t164).bind fun t189 => (if t189 = true then ((laws_eqInt64S.f kj7 t175 t165).bind fun t190 => (if t190 = true then (laws_FnExactSortPlan.j1 kj7 a0 l1 t164 t165 t166 t174 t175 (t176 != t166)) else (laws_FnExactSortPlan.j1 kj7 a0 l1 t164 t165 t166 t174 t175 true))) else (laws_FnExactSortPlan.j1 kj7 a0 l1 t164 t165 t166 t174 t175 true))))) = some r := by rw [if_pos rfl] at H; exact H
      clear H
      have H := H1
      clear H1
      replace H := Option.bind_eq_some_iff.mp H
      obtain ⟨⟨t187, t188⟩, A360, H⟩ := H
      replace H : (if t187 < 0 then (laws_FnExactSortPlan.j1 kj7 a0 l1 t164 t165 t166 t174 t175 true) else ((laws_eqAskS.f kj7 t174 t164).bind fun t189 => (if t189 = true then ((laws_eqInt64S.f kj7 t175 t165).bind fun t190 => (if t190 = true then (laws_FnExactSortPlan.j1 kj7 a0 l1 t164 t165 t166 t174 t175 (t176 != t166)) else (laws_FnExactSortPlan.j1 kj7 a0 l1 t164 t165 t166 t174 t175 true))) else (laws_FnExactSortPlan.j1 kj7 a0 l1 t164 t165 t166 t174 t175 true)))) = some r := H
      have A36 := Aside0.mk A360
      clear A360
      have HC37 := Aside0.mk H
      clear H
      go_upto_region 12 with (first | ((with_reducible refine gate_callee (f := 17) rfl ?_); refine goesL_ (some 55) rfl rfl Try.func17 (by kernel_rfl) rfl #[.slice A1 l1.length c1] rfl (by (try simp only [List.map_toArray, List.map_cons, List.map_nil]); first | done | rfl | (simp only [List.length_drop, List.length_take]; rfl)) ?_; (with_reducible refine (laws_toBoolS.calls kj7 _ _ l1 t183 _ ?side1 ?side2 A33.out).mono ?_); (case side1 => repeat (first | exact (Kd.C_below HR1.out HB.out) | (with_reducible refine Kd.C_alloc ?_ _) | (with_reducible refine Kd.C_drewN ?_ _) | (with_reducible refine Kd.C_drew ?_))); (case side2 => exact HC1.out); rintro e w38 ⟨v184, rfl, ho0, hb⟩; refine ⟨_, rfl, ?_⟩; have n0_ := Aside0.mk (Kd.R_below (by (with_reducible repeat (first | apply Kd.R_alloc | apply Kd.R_drewN | apply Kd.R_drew)); exact HO_5.out) hb); have n1_ := Aside0.mk (Kd.R_below (by (with_reducible repeat (first | apply Kd.R_alloc | apply Kd.R_drewN | apply Kd.R_drew)); exact HO_6.out) hb); have n2_ := Aside0.mk (Kd.R_elder' (by (with_reducible repeat (first | apply Kd.R_alloc | apply Kd.R_drewN | apply Kd.R_drew)); exact HO_8.out) (Kd.R_base ho0) hb); have n3_ := Aside0.mk (Kd.R_below (by (with_reducible repeat (first | apply Kd.R_alloc | apply Kd.R_drewN | apply Kd.R_drew)); exact HO_9.out) hb); have n4_ := Aside0.mk (Kd.R_below (by (with_reducible repeat (first | apply Kd.R_alloc | apply Kd.R_drewN | apply Kd.R_drew)); exact HO_10.out) hb); have n5_ := Aside0.mk (Kd.R_lower (Kd.R_new' ho0 (Kd.R_lt (by (with_reducible repeat (first | apply Kd.R_alloc | apply Kd.R_drewN | apply Kd.R_drew)); exact HO_8.out))) (below_size (by repeat (first | (with_reducible first | exact HB.out | apply below_alloc | apply pw_below_drewN | apply below_drew1) | exact HB.out)))); have n6_ := Aside0.mk (below_step (by repeat (first | (with_reducible first | exact HB.out | apply below_alloc | apply pw_below_drewN | apply below_drew1) | exact HB.out)) hb); clear HO_5; clear HO_6; clear HO_8; clear HO_9; clear HO_10; clear HB; have HO_5 := n0_; have HO_6 := n1_; have HO_8 := n2_; have HO_9 := n3_; have HO_10 := n4_; have HO185 := n5_; have HB := n6_; clear n0_ n1_ n2_ n3_ n4_ n5_ n6_; (try clear hb); (try clear hb2); (try clear hk); (try clear hi); (try clear ho0); obtain ⟨Ao39, co39, eo39⟩ := Kd.R_slice HO185.out; subst eo39) | ((with_reducible refine gate_callee (f := 19) rfl ?_); refine goesL_ (some 56) rfl rfl Try.func19 (by kernel_rfl) rfl #[.slice Ao13 t171.length co13, .slice Ao39 t183.length co39] rfl (by (try simp only [List.map_toArray, List.map_cons, List.map_nil]); first | done | rfl | (simp only [List.length_drop, List.length_take]; rfl)) ?_; (with_reducible refine (laws_eqBoolS.calls kj7 _ _ t171 _ _ t183 true _ ?side1 ?side2 ?side3 ?side4 A34.out).mono ?_); (case side1 => repeat (first | exact (Kd.R_reads' HO_8.out).2.2 | (with_reducible refine Kd.C_alloc ?_ _) | (with_reducible refine Kd.C_drewN ?_ _) | (with_reducible refine Kd.C_drew ?_))); (case side2 => exact (Kd.R_reads' HO_8.out).2.1); (case side3 => repeat (first | exact (Kd.R_reads' HO185.out).2.2 | (with_reducible refine Kd.C_alloc ?_ _) | (with_reducible refine Kd.C_drewN ?_ _) | (with_reducible refine Kd.C_drew ?_))); (case side4 => exact (Kd.R_reads' HO185.out).2.1); rintro e w' ⟨rfl, ⟨nd, rfl⟩⟩; refine ⟨_, rfl, ?_⟩) | ((with_reducible refine gate_callee (f := 20) rfl ?_); refine goesL_ (some 60) rfl rfl Try.func20 (by kernel_rfl) rfl #[.slice Ao13 t171.length co13, .int .i64 1] rfl (by (try simp only [List.map_toArray, List.map_cons, List.map_nil]); first | done | rfl | (simp only [List.length_drop, List.length_take]; rfl)) ?_; (with_reducible refine (laws_markBoolS.calls kj7 (fun k_ => some k_ = (.slice Ao13 t171.length co13 : Value).ownBlock) (.slice Ao13 t171.length co13) t171 1 t187 t188 w _ ?side1 ?side2 A36.out).mono ?_); (case side1 => repeat (first | (with_reducible first | exact HB.out | apply below_alloc | apply pw_below_drewN | apply below_drew1) | exact HB.out)); (case side2 => exact Kd.R_tight rfl HO_8.out); rintro e w40 ⟨rfl, hy0, hb, hkp⟩; refine ⟨_, rfl, ?_⟩; have n0_ := Aside0.mk (Kd.R_mono (ok' := fun k_ => some k_ ≠ (v177 : Value).ownBlock) (Kd.R_keptB ((Kd.R_apart' HO_5.out (Kd.R_typed HO_8.out) (by decide))) hkp (fun k_ hk_ hs_ => (hk_.2) hs_)) (fun k_ hk_ => hk_.1.1)); have n1_ := Aside0.mk (Kd.R_mono (ok' := fun k_ => some k_ ≠ (v179 : Value).ownBlock) (Kd.R_keptB ((Kd.R_apart' HO_6.out (Kd.R_typed HO_8.out) (by decide))) hkp (fun k_ hk_ hs_ => (hk_.2) hs_)) (fun k_ hk_ => hk_.1.1)); have n2_ := Aside0.mk (Kd.R_reok rfl hy0 (fun k_ e_ => HO_8.out.1 k_ e_)); have n3_ := Aside0.mk (Kd.R_mono (ok' := fun k_ => some k_ ≠ (v167 : Value).ownBlock) (Kd.R_keptB ((Kd.R_apart' HO_9.out (Kd.R_typed HO_8.out) (by decide))) hkp (fun k_ hk_ hs_ => (hk_.2) hs_)) (fun k_ hk_ => hk_.1.1)); have n4_ := Aside0.mk (Kd.R_mono (ok' := fun k_ => some k_ ≠ (v169 : Value).ownBlock) (Kd.R_keptB ((Kd.R_apart' HO_10.out (Kd.R_typed HO_8.out) (by decide))) hkp (fun k_ hk_ hs_ => (hk_.2) hs_)) (fun k_ hk_ => hk_.1.1)); have n5_ := Aside0.mk (Kd.R_mono (ok' := fun k_ => some k_ ≠ (.slice Ao13 t171.length co13 : Value).ownBlock) (Kd.R_keptB (HO185.out) hkp (fun k_ hk_ hs_ => (hk_.2) hs_)) (fun k_ hk_ => hk_.1.2)); have n6_ := Aside0.mk (hb); clear HO_5; clear HO_6; clear HO_8; clear HO_9; clear HO_10; clear HO185; clear HB; have HO_5 := n0_; have HO_6 := n1_; have HO_8 := n2_; have HO_9 := n3_; have HO_10 := n4_; have HO185 := n5_; have HB := n6_; clear n0_ n1_ n2_ n3_ n4_ n5_ n6_; (try clear hb); (try clear hkp); (try clear hy0)))
      (try simp only [Act.put, List.setIfInBounds_toArray, List.set_cons_zero, List.set_cons_succ])
      go_cut [79] (fun v79 wc => ∃ (kq : Nat) (x79_36 : Bool), v79 = .bool x79_36 ∧ Aside0 (laws_FnExactSortPlan.j1 kq a0 l1 t164 t165 t166 t174 t175 x79_36 = some r) ∧ Aside0 (kq ≤ kj7) ∧ Aside0 (Kd.R k34 34 wc w.heap.size (fun k_ => some k_ ≠ (v177 : Value).ownBlock) v167 t164) ∧ Aside0 (Kd.R (Kd.int .i64) 2 wc w.heap.size (fun k_ => some k_ ≠ (v179 : Value).ownBlock) v169 t165) ∧ Aside0 (Kd.R k34 34 wc w.heap.size (fun k_ => some k_ ≠ (v167 : Value).ownBlock) v177 t174) ∧ Aside0 (Kd.R (Kd.int .i64) 2 wc w.heap.size (fun k_ => some k_ ≠ (v169 : Value).ownBlock) v179 t175) ∧ Aside0 (Below w.heap.size w wc))
      case first =>
       have H := HC37.out
       clear HC37
       by_cases c41 : t187 < 0
       ·rw [if_pos c41] at H
        have c41b0 : decide (t187 < 0) = true := decide_eq_true c41
        clear c41
        (first | rw [c41b0] | (simp only [i64_w, i32_w]; rw [c41b0]) | skip)
        have H' := Aside0.mk H
        clear H
        go_wp2
        go_meet
        case rel => exact ⟨_, (true), (by first | rfl | (simp; done) | (simp [*]; done)), H', ⟨by have := HJ7.out; first | omega | exact Nat.le_refl _⟩, ⟨by (with_reducible repeat (first | apply Kd.R_alloc | apply Kd.R_drewN | apply Kd.R_drew)); exact HO_5.out⟩, ⟨by (with_reducible repeat (first | apply Kd.R_alloc | apply Kd.R_drewN | apply Kd.R_drew)); exact HO_6.out⟩, ⟨by (with_reducible repeat (first | apply Kd.R_alloc | apply Kd.R_drewN | apply Kd.R_drew)); exact HO_9.out⟩, ⟨by (with_reducible repeat (first | apply Kd.R_alloc | apply Kd.R_drewN | apply Kd.R_drew)); exact HO_10.out⟩, ⟨by repeat (first | (with_reducible first | exact HB.out | apply below_alloc | apply pw_below_drewN | apply below_drew1) | exact HB.out)⟩⟩
       ·rw [if_neg c41] at H
        have c41b0 : decide (t187 < 0) = false := decide_eq_false c41
        clear c41
        (first | rw [c41b0] | (simp only [i64_w, i32_w]; rw [c41b0]) | skip)
        replace H := Option.bind_eq_some_iff.mp H
        obtain ⟨t189, A420, H⟩ := H
        replace H : (if t189 = true then ((laws_eqInt64S.f kj7 t175 t165).bind fun t190 => (if t190 = true then (laws_FnExactSortPlan.j1 kj7 a0 l1 t164 t165 t166 t174 t175 (t176 != t166)) else (laws_FnExactSortPlan.j1 kj7 a0 l1 t164 t165 t166 t174 t175 true))) else (laws_FnExactSortPlan.j1 kj7 a0 l1 t164 t165 t166 t174 t175 true)) = some r := H
        have A42 := Aside0.mk A420
        clear A420
        by_cases c43 : t189 = true
        ·subst c43
         have H1 : ((laws_eqInt64S.f kj7 t175 t165).bind fun t190 => (if t190 = true then (laws_FnExactSortPlan.j1 kj7 a0 l1 t164 t165 t166 t174 t175 (t176 != t166)) else (laws_FnExactSortPlan.j1 kj7 a0 l1 t164 t165 t166 t174 t175 true))) = some r := by rw [if_pos rfl] at H; exact H
         clear H
         have H := H1
         clear H1
         replace H := Option.bind_eq_some_iff.mp H
         obtain ⟨t190, A440, H⟩ := H
         replace H : (if t190 = true then (laws_FnExactSortPlan.j1 kj7 a0 l1 t164 t165 t166 t174 t175 (t176 != t166)) else (laws_FnExactSortPlan.j1 kj7 a0 l1 t164 t165 t166 t174 t175 true)) = some r := H
         have A44 := Aside0.mk A440
         clear A440
         by_cases c45 : t190 = true
         ·subst c45
          have H1 : (laws_FnExactSortPlan.j1 kj7 a0 l1 t164 t165 t166 t174 t175 (t176 != t166)) = some r := by rw [if_pos rfl] at H; exact H
          clear H
          have H := H1
          clear H1
          have H' := Aside0.mk H
          clear H
          obtain ⟨Ao46, co46, eo46⟩ := Kd.R_slice HO_9.out
          subst eo46
          obtain ⟨Ao47, co47, eo47⟩ := Kd.R_slice HO_5.out
          subst eo47
          go_wp2_with (first | (go_at_call 18; (with_reducible refine (laws_eqAskS.calls kj7 _ _ t174 _ _ t164 true _ ?side1 ?side2 ?side3 ?side4 A42.out).mono ?_); (case side1 => repeat (first | exact (Kd.R_reads' HO_9.out).2.2 | (with_reducible refine Kd.C_alloc ?_ _) | (with_reducible refine Kd.C_drewN ?_ _) | (with_reducible refine Kd.C_drew ?_))); (case side2 => exact (Kd.R_reads' HO_9.out).2.1); (case side3 => repeat (first | exact (Kd.R_reads' HO_5.out).2.2 | (with_reducible refine Kd.C_alloc ?_ _) | (with_reducible refine Kd.C_drewN ?_ _) | (with_reducible refine Kd.C_drew ?_))); (case side4 => exact (Kd.R_reads' HO_5.out).2.1); rintro e w48 ⟨rfl, hb⟩; have n0_ := Aside0.mk (Kd.R_below (by (with_reducible repeat (first | apply Kd.R_alloc | apply Kd.R_drewN | apply Kd.R_drew)); exact HO_5.out) hb); have n1_ := Aside0.mk (Kd.R_below (by (with_reducible repeat (first | apply Kd.R_alloc | apply Kd.R_drewN | apply Kd.R_drew)); exact HO_6.out) hb); have n2_ := Aside0.mk (Kd.R_below (by (with_reducible repeat (first | apply Kd.R_alloc | apply Kd.R_drewN | apply Kd.R_drew)); exact HO_8.out) hb); have n3_ := Aside0.mk (Kd.R_below (by (with_reducible repeat (first | apply Kd.R_alloc | apply Kd.R_drewN | apply Kd.R_drew)); exact HO_9.out) hb); have n4_ := Aside0.mk (Kd.R_below (by (with_reducible repeat (first | apply Kd.R_alloc | apply Kd.R_drewN | apply Kd.R_drew)); exact HO_10.out) hb); have n5_ := Aside0.mk (Kd.R_below (by (with_reducible repeat (first | apply Kd.R_alloc | apply Kd.R_drewN | apply Kd.R_drew)); exact HO185.out) hb); have n6_ := Aside0.mk (below_step (by repeat (first | (with_reducible first | exact HB.out | apply below_alloc | apply pw_below_drewN | apply below_drew1) | exact HB.out)) hb); clear HO_5; clear HO_6; clear HO_8; clear HO_9; clear HO_10; clear HO185; clear HB; have HO_5 := n0_; have HO_6 := n1_; have HO_8 := n2_; have HO_9 := n3_; have HO_10 := n4_; have HO185 := n5_; have HB := n6_; clear n0_ n1_ n2_ n3_ n4_ n5_ n6_; (try clear hb); (try clear hb2); (try clear hk); (try clear hi); obtain ⟨Ao49, co49, eo49⟩ := Kd.R_slice HO_10.out; subst eo49; obtain ⟨Ao50, co50, eo50⟩ := Kd.R_slice HO_6.out; subst eo50) | (go_at_call 13; (with_reducible refine (laws_eqInt64S.calls kj7 _ _ t175 _ _ t165 true _ ?side1 ?side2 ?side3 ?side4 A44.out).mono ?_); (case side1 => repeat (first | exact (Kd.R_reads' HO_10.out).2.2 | (with_reducible refine Kd.C_alloc ?_ _) | (with_reducible refine Kd.C_drewN ?_ _) | (with_reducible refine Kd.C_drew ?_))); (case side2 => exact (Kd.R_reads' HO_10.out).2.1); (case side3 => repeat (first | exact (Kd.R_reads' HO_6.out).2.2 | (with_reducible refine Kd.C_alloc ?_ _) | (with_reducible refine Kd.C_drewN ?_ _) | (with_reducible refine Kd.C_drew ?_))); (case side4 => exact (Kd.R_reads' HO_6.out).2.1); rintro e w' ⟨rfl, ⟨nd, rfl⟩⟩))
          go_meet
          case rel => exact ⟨_, ((t176 != t166)), (by first | rfl | (simp; done) | (simp [*]; done)), H', ⟨by have := HJ7.out; first | omega | exact Nat.le_refl _⟩, ⟨by (with_reducible repeat (first | apply Kd.R_alloc | apply Kd.R_drewN | apply Kd.R_drew)); exact HO_5.out⟩, ⟨by (with_reducible repeat (first | apply Kd.R_alloc | apply Kd.R_drewN | apply Kd.R_drew)); exact HO_6.out⟩, ⟨by (with_reducible repeat (first | apply Kd.R_alloc | apply Kd.R_drewN | apply Kd.R_drew)); exact HO_9.out⟩, ⟨by (with_reducible repeat (first | apply Kd.R_alloc | apply Kd.R_drewN | apply Kd.R_drew)); exact HO_10.out⟩, ⟨by repeat (first | (with_reducible first | exact HB.out | apply below_alloc | apply pw_below_drewN | apply below_drew1) | exact HB.out)⟩⟩
         ·replace c45 := Bool.eq_false_iff.mpr c45
          subst c45
          have H1 : (laws_FnExactSortPlan.j1 kj7 a0 l1 t164 t165 t166 t174 t175 true) = some r := by rw [if_neg (show ¬ (false = true) by decide)] at H; exact H
          clear H
          have H := H1
          clear H1
          have H' := Aside0.mk H
          clear H
          obtain ⟨Ao51, co51, eo51⟩ := Kd.R_slice HO_9.out
          subst eo51
          obtain ⟨Ao52, co52, eo52⟩ := Kd.R_slice HO_5.out
          subst eo52
          go_wp2_with (first | (go_at_call 18; (with_reducible refine (laws_eqAskS.calls kj7 _ _ t174 _ _ t164 true _ ?side1 ?side2 ?side3 ?side4 A42.out).mono ?_); (case side1 => repeat (first | exact (Kd.R_reads' HO_9.out).2.2 | (with_reducible refine Kd.C_alloc ?_ _) | (with_reducible refine Kd.C_drewN ?_ _) | (with_reducible refine Kd.C_drew ?_))); (case side2 => exact (Kd.R_reads' HO_9.out).2.1); (case side3 => repeat (first | exact (Kd.R_reads' HO_5.out).2.2 | (with_reducible refine Kd.C_alloc ?_ _) | (with_reducible refine Kd.C_drewN ?_ _) | (with_reducible refine Kd.C_drew ?_))); (case side4 => exact (Kd.R_reads' HO_5.out).2.1); rintro e w53 ⟨rfl, hb⟩; have n0_ := Aside0.mk (Kd.R_below (by (with_reducible repeat (first | apply Kd.R_alloc | apply Kd.R_drewN | apply Kd.R_drew)); exact HO_5.out) hb); have n1_ := Aside0.mk (Kd.R_below (by (with_reducible repeat (first | apply Kd.R_alloc | apply Kd.R_drewN | apply Kd.R_drew)); exact HO_6.out) hb); have n2_ := Aside0.mk (Kd.R_below (by (with_reducible repeat (first | apply Kd.R_alloc | apply Kd.R_drewN | apply Kd.R_drew)); exact HO_8.out) hb); have n3_ := Aside0.mk (Kd.R_below (by (with_reducible repeat (first | apply Kd.R_alloc | apply Kd.R_drewN | apply Kd.R_drew)); exact HO_9.out) hb); have n4_ := Aside0.mk (Kd.R_below (by (with_reducible repeat (first | apply Kd.R_alloc | apply Kd.R_drewN | apply Kd.R_drew)); exact HO_10.out) hb); have n5_ := Aside0.mk (Kd.R_below (by (with_reducible repeat (first | apply Kd.R_alloc | apply Kd.R_drewN | apply Kd.R_drew)); exact HO185.out) hb); have n6_ := Aside0.mk (below_step (by repeat (first | (with_reducible first | exact HB.out | apply below_alloc | apply pw_below_drewN | apply below_drew1) | exact HB.out)) hb); clear HO_5; clear HO_6; clear HO_8; clear HO_9; clear HO_10; clear HO185; clear HB; have HO_5 := n0_; have HO_6 := n1_; have HO_8 := n2_; have HO_9 := n3_; have HO_10 := n4_; have HO185 := n5_; have HB := n6_; clear n0_ n1_ n2_ n3_ n4_ n5_ n6_; (try clear hb); (try clear hb2); (try clear hk); (try clear hi); obtain ⟨Ao54, co54, eo54⟩ := Kd.R_slice HO_10.out; subst eo54; obtain ⟨Ao55, co55, eo55⟩ := Kd.R_slice HO_6.out; subst eo55) | (go_at_call 13; (with_reducible refine (laws_eqInt64S.calls kj7 _ _ t175 _ _ t165 false _ ?side1 ?side2 ?side3 ?side4 A44.out).mono ?_); (case side1 => repeat (first | exact (Kd.R_reads' HO_10.out).2.2 | (with_reducible refine Kd.C_alloc ?_ _) | (with_reducible refine Kd.C_drewN ?_ _) | (with_reducible refine Kd.C_drew ?_))); (case side2 => exact (Kd.R_reads' HO_10.out).2.1); (case side3 => repeat (first | exact (Kd.R_reads' HO_6.out).2.2 | (with_reducible refine Kd.C_alloc ?_ _) | (with_reducible refine Kd.C_drewN ?_ _) | (with_reducible refine Kd.C_drew ?_))); (case side4 => exact (Kd.R_reads' HO_6.out).2.1); rintro e w' ⟨rfl, ⟨nd, rfl⟩⟩))
          go_meet
          case rel => exact ⟨_, (true), (by first | rfl | (simp; done) | (simp [*]; done)), H', ⟨by have := HJ7.out; first | omega | exact Nat.le_refl _⟩, ⟨by (with_reducible repeat (first | apply Kd.R_alloc | apply Kd.R_drewN | apply Kd.R_drew)); exact HO_5.out⟩, ⟨by (with_reducible repeat (first | apply Kd.R_alloc | apply Kd.R_drewN | apply Kd.R_drew)); exact HO_6.out⟩, ⟨by (with_reducible repeat (first | apply Kd.R_alloc | apply Kd.R_drewN | apply Kd.R_drew)); exact HO_9.out⟩, ⟨by (with_reducible repeat (first | apply Kd.R_alloc | apply Kd.R_drewN | apply Kd.R_drew)); exact HO_10.out⟩, ⟨by repeat (first | (with_reducible first | exact HB.out | apply below_alloc | apply pw_below_drewN | apply below_drew1) | exact HB.out)⟩⟩
        ·replace c43 := Bool.eq_false_iff.mpr c43
         subst c43
         have H1 : (laws_FnExactSortPlan.j1 kj7 a0 l1 t164 t165 t166 t174 t175 true) = some r := by rw [if_neg (show ¬ (false = true) by decide)] at H; exact H
         clear H
         have H := H1
         clear H1
         have H' := Aside0.mk H
         clear H
         obtain ⟨Ao56, co56, eo56⟩ := Kd.R_slice HO_9.out
         subst eo56
         obtain ⟨Ao57, co57, eo57⟩ := Kd.R_slice HO_5.out
         subst eo57
         go_wp2_with (first | (go_at_call 18; (with_reducible refine (laws_eqAskS.calls kj7 _ _ t174 _ _ t164 false _ ?side1 ?side2 ?side3 ?side4 A42.out).mono ?_); (case side1 => repeat (first | exact (Kd.R_reads' HO_9.out).2.2 | (with_reducible refine Kd.C_alloc ?_ _) | (with_reducible refine Kd.C_drewN ?_ _) | (with_reducible refine Kd.C_drew ?_))); (case side2 => exact (Kd.R_reads' HO_9.out).2.1); (case side3 => repeat (first | exact (Kd.R_reads' HO_5.out).2.2 | (with_reducible refine Kd.C_alloc ?_ _) | (with_reducible refine Kd.C_drewN ?_ _) | (with_reducible refine Kd.C_drew ?_))); (case side4 => exact (Kd.R_reads' HO_5.out).2.1); rintro e w58 ⟨rfl, hb⟩; have n0_ := Aside0.mk (Kd.R_below (by (with_reducible repeat (first | apply Kd.R_alloc | apply Kd.R_drewN | apply Kd.R_drew)); exact HO_5.out) hb); have n1_ := Aside0.mk (Kd.R_below (by (with_reducible repeat (first | apply Kd.R_alloc | apply Kd.R_drewN | apply Kd.R_drew)); exact HO_6.out) hb); have n2_ := Aside0.mk (Kd.R_below (by (with_reducible repeat (first | apply Kd.R_alloc | apply Kd.R_drewN | apply Kd.R_drew)); exact HO_8.out) hb); have n3_ := Aside0.mk (Kd.R_below (by (with_reducible repeat (first | apply Kd.R_alloc | apply Kd.R_drewN | apply Kd.R_drew)); exact HO_9.out) hb); have n4_ := Aside0.mk (Kd.R_below (by (with_reducible repeat (first | apply Kd.R_alloc | apply Kd.R_drewN | apply Kd.R_drew)); exact HO_10.out) hb); have n5_ := Aside0.mk (Kd.R_below (by (with_reducible repeat (first | apply Kd.R_alloc | apply Kd.R_drewN | apply Kd.R_drew)); exact HO185.out) hb); have n6_ := Aside0.mk (below_step (by repeat (first | (with_reducible first | exact HB.out | apply below_alloc | apply pw_below_drewN | apply below_drew1) | exact HB.out)) hb); clear HO_5; clear HO_6; clear HO_8; clear HO_9; clear HO_10; clear HO185; clear HB; have HO_5 := n0_; have HO_6 := n1_; have HO_8 := n2_; have HO_9 := n3_; have HO_10 := n4_; have HO185 := n5_; have HB := n6_; clear n0_ n1_ n2_ n3_ n4_ n5_ n6_; (try clear hb); (try clear hb2); (try clear hk); (try clear hi)))
         go_meet
         case rel => exact ⟨_, (true), (by first | rfl | (simp; done) | (simp [*]; done)), H', ⟨by have := HJ7.out; first | omega | exact Nat.le_refl _⟩, ⟨by (with_reducible repeat (first | apply Kd.R_alloc | apply Kd.R_drewN | apply Kd.R_drew)); exact HO_5.out⟩, ⟨by (with_reducible repeat (first | apply Kd.R_alloc | apply Kd.R_drewN | apply Kd.R_drew)); exact HO_6.out⟩, ⟨by (with_reducible repeat (first | apply Kd.R_alloc | apply Kd.R_drewN | apply Kd.R_drew)); exact HO_9.out⟩, ⟨by (with_reducible repeat (first | apply Kd.R_alloc | apply Kd.R_drewN | apply Kd.R_drew)); exact HO_10.out⟩, ⟨by repeat (first | (with_reducible first | exact HB.out | apply below_alloc | apply pw_below_drewN | apply below_drew1) | exact HB.out)⟩⟩
      case rest =>
       clear HC37
       try clear c1
       try clear c2
       try clear p2
       try clear c3
       try clear c3b0
       try clear c3b1
       try clear c4
       try clear c5
       try clear c9
       try clear c16
       try clear c17
       try clear c18
       try clear c19
       try clear c20
       try clear c32
       try clear c35
       try clear c41
       try clear c41b0
       try clear c43
       try clear c45
       try clear p2
       obtain ⟨kq, x79_36, rfl, HA, HJ36, HO_5, HO_6, HO_9, HO_10, HB⟩ := hcut
       cases kq with
       | zero => exact absurd HA.out (by simp [laws_FnExactSortPlan.j1])
       | succ kj36 =>
        have H := HA.out
        clear HA
        simp only [laws_FnExactSortPlan.j1] at H
        by_cases c59 : x79_36 = true
        ·subst c59
         have H1 : (none) = some r := by rw [if_pos rfl] at H; exact H
         clear H
         have H := H1
         clear H1
         exact absurd H (by simp)
        ·replace c59 := Bool.eq_false_iff.mpr c59
         subst c59
         have H1 : ((laws_markAskS.f kj36 t174 1).bind fun bt191 => ((laws_markInt64S.f kj36 t175 bt191.1).bind fun bt193 => ((laws_heldAskS.f kj36 bt191.2 1).bind fun t195 => (if t195 < 0 then (none) else ((laws_heldInt64S.f kj36 bt193.2 t195).bind fun t196 => (if t196 < 0 then (none) else (if t196 = bt193.1 then ((laws_toBoolS.f kj36 l1).bind fun t197 => ((impl_SortPlan.f a0 t197).bind fun bt200 => ((laws_eqAskS.f kj36 bt200.1 t164).bind fun t207 => (if t207 = true then ((laws_eqInt64S.f kj36 bt200.2.1 t165).bind fun t208 => (if t208 = true then (laws_FnExactSortPlan.j2 kj36 bt191.2 bt193.2 bt193.1 (bt200.2.2 != t166)) else (laws_FnExactSortPlan.j2 kj36 bt191.2 bt193.2 bt193.1 true))) else (laws_FnExactSortPlan.j2 kj36 bt191.2 bt193.2 bt193.1 true))))) else (none)))))))) = some r := by rw [if_neg (show ¬ (false = true) by decide)] at H; exact H
         clear H
         have H := H1
         clear H1
         replace H := Option.bind_eq_some_iff.mp H
         obtain ⟨⟨t191, t192⟩, A600, H⟩ := H
         replace H : ((laws_markInt64S.f kj36 t175 t191).bind fun bt193 => ((laws_heldAskS.f kj36 t192 1).bind fun t195 => (if t195 < 0 then (none) else ((laws_heldInt64S.f kj36 bt193.2 t195).bind fun t196 => (if t196 < 0 then (none) else (if t196 = bt193.1 then ((laws_toBoolS.f kj36 l1).bind fun t197 => ((impl_SortPlan.f a0 t197).bind fun bt200 => ((laws_eqAskS.f kj36 bt200.1 t164).bind fun t207 => (if t207 = true then ((laws_eqInt64S.f kj36 bt200.2.1 t165).bind fun t208 => (if t208 = true then (laws_FnExactSortPlan.j2 kj36 t192 bt193.2 bt193.1 (bt200.2.2 != t166)) else (laws_FnExactSortPlan.j2 kj36 t192 bt193.2 bt193.1 true))) else (laws_FnExactSortPlan.j2 kj36 t192 bt193.2 bt193.1 true))))) else (none))))))) = some r := H
         have A60 := Aside0.mk A600
         clear A600
         replace H := Option.bind_eq_some_iff.mp H
         obtain ⟨⟨t193, t194⟩, A610, H⟩ := H
         replace H : ((laws_heldAskS.f kj36 t192 1).bind fun t195 => (if t195 < 0 then (none) else ((laws_heldInt64S.f kj36 t194 t195).bind fun t196 => (if t196 < 0 then (none) else (if t196 = t193 then ((laws_toBoolS.f kj36 l1).bind fun t197 => ((impl_SortPlan.f a0 t197).bind fun bt200 => ((laws_eqAskS.f kj36 bt200.1 t164).bind fun t207 => (if t207 = true then ((laws_eqInt64S.f kj36 bt200.2.1 t165).bind fun t208 => (if t208 = true then (laws_FnExactSortPlan.j2 kj36 t192 t194 t193 (bt200.2.2 != t166)) else (laws_FnExactSortPlan.j2 kj36 t192 t194 t193 true))) else (laws_FnExactSortPlan.j2 kj36 t192 t194 t193 true))))) else (none)))))) = some r := H
         have A61 := Aside0.mk A610
         clear A610
         replace H := Option.bind_eq_some_iff.mp H
         obtain ⟨t195, A620, H⟩ := H
         replace H : (if t195 < 0 then (none) else ((laws_heldInt64S.f kj36 t194 t195).bind fun t196 => (if t196 < 0 then (none) else (if t196 = t193 then ((laws_toBoolS.f kj36 l1).bind fun t197 => ((impl_SortPlan.f a0 t197).bind fun bt200 => ((laws_eqAskS.f kj36 bt200.1 t164).bind fun t207 => (if t207 = true then ((laws_eqInt64S.f kj36 bt200.2.1 t165).bind fun t208 => (if t208 = true then (laws_FnExactSortPlan.j2 kj36 t192 t194 t193 (bt200.2.2 != t166)) else (laws_FnExactSortPlan.j2 kj36 t192 t194 t193 true))) else (laws_FnExactSortPlan.j2 kj36 t192 t194 t193 true))))) else (none))))) = some r := H
         have A62 := Aside0.mk A620
         clear A620
         by_cases c63 : t195 < 0
         ·rw [if_pos c63] at H
          exact absurd H (by simp)
         ·rw [if_neg c63] at H
          have c63b0 : decide (t195 < 0) = false := decide_eq_false c63
          clear c63
          replace H := Option.bind_eq_some_iff.mp H
          obtain ⟨t196, A640, H⟩ := H
          replace H : (if t196 < 0 then (none) else (if t196 = t193 then ((laws_toBoolS.f kj36 l1).bind fun t197 => ((impl_SortPlan.f a0 t197).bind fun bt200 => ((laws_eqAskS.f kj36 bt200.1 t164).bind fun t207 => (if t207 = true then ((laws_eqInt64S.f kj36 bt200.2.1 t165).bind fun t208 => (if t208 = true then (laws_FnExactSortPlan.j2 kj36 t192 t194 t193 (bt200.2.2 != t166)) else (laws_FnExactSortPlan.j2 kj36 t192 t194 t193 true))) else (laws_FnExactSortPlan.j2 kj36 t192 t194 t193 true))))) else (none))) = some r := H
          have A64 := Aside0.mk A640
          clear A640
          by_cases c65 : t196 < 0
          ·rw [if_pos c65] at H
           exact absurd H (by simp)
          ·rw [if_neg c65] at H
           have c65b0 : decide (t196 < 0) = false := decide_eq_false c65
           clear c65
           by_cases c66 : t196 = t193
           ·rw [if_pos c66] at H
            have c66b0 : (t196 == t193) = true := beq_iff_eq.mpr c66
            have c66b1 : (t196 != t193) = false := bne_eq_false_iff_eq.mpr c66
            clear c66
            replace H := Option.bind_eq_some_iff.mp H
            obtain ⟨t197, A670, H⟩ := H
            replace H : ((impl_SortPlan.f a0 t197).bind fun bt200 => ((laws_eqAskS.f kj36 bt200.1 t164).bind fun t207 => (if t207 = true then ((laws_eqInt64S.f kj36 bt200.2.1 t165).bind fun t208 => (if t208 = true then (laws_FnExactSortPlan.j2 kj36 t192 t194 t193 (bt200.2.2 != t166)) else (laws_FnExactSortPlan.j2 kj36 t192 t194 t193 true))) else (laws_FnExactSortPlan.j2 kj36 t192 t194 t193 true)))) = some r := H
            have A67 := Aside0.mk A670
            clear A670
            replace H := Option.bind_eq_some_iff.mp H
            obtain ⟨⟨t200, t201, t202⟩, A680, H⟩ := H
            replace H : ((laws_eqAskS.f kj36 t200 t164).bind fun t207 => (if t207 = true then ((laws_eqInt64S.f kj36 t201 t165).bind fun t208 => (if t208 = true then (laws_FnExactSortPlan.j2 kj36 t192 t194 t193 (t202 != t166)) else (laws_FnExactSortPlan.j2 kj36 t192 t194 t193 true))) else (laws_FnExactSortPlan.j2 kj36 t192 t194 t193 true))) = some r := H
            have A68 := Aside0.mk A680
            clear A680
            have HC69 := Aside0.mk H
            clear H
            obtain ⟨Ao70, co70, eo70⟩ := Kd.R_slice HO_9.out
            subst eo70
            go_upto_region 27 with (first | ((with_reducible refine gate_callee (f := 21) rfl ?_); refine goesL_ (some 82) rfl rfl Try.func21 (by kernel_rfl) rfl #[.slice Ao70 t174.length co70, .int .i64 1] rfl (by (try simp only [List.map_toArray, List.map_cons, List.map_nil]); first | done | rfl | (simp only [List.length_drop, List.length_take]; rfl)) ?_; (with_reducible refine (laws_markAskS.calls kj36 (fun k_ => some k_ = (.slice Ao70 t174.length co70 : Value).ownBlock) (.slice Ao70 t174.length co70) t174 1 t191 t192 w _ ?side1 ?side2 A60.out).mono ?_); (case side1 => repeat (first | (with_reducible first | exact HB.out | apply below_alloc | apply pw_below_drewN | apply below_drew1) | exact HB.out)); (case side2 => exact Kd.R_tight rfl HO_9.out); rintro e w71 ⟨rfl, hy0, hb, hkp⟩; refine ⟨_, rfl, ?_⟩; have n0_ := Aside0.mk (Kd.R_mono (ok' := fun k_ => some k_ ≠ (.slice Ao70 t174.length co70 : Value).ownBlock) (Kd.R_keptB (HO_5.out) hkp (fun k_ hk_ hs_ => (hk_) hs_)) (fun k_ hk_ => hk_.1)); have n1_ := Aside0.mk (Kd.R_mono (ok' := fun k_ => some k_ ≠ (v179 : Value).ownBlock) (Kd.R_keptB ((Kd.R_apart' HO_6.out (Kd.R_typed HO_9.out) (by decide))) hkp (fun k_ hk_ hs_ => (hk_.2) hs_)) (fun k_ hk_ => hk_.1.1)); have n2_ := Aside0.mk (Kd.R_reok rfl hy0 (fun k_ e_ => HO_9.out.1 k_ e_)); have n3_ := Aside0.mk (Kd.R_mono (ok' := fun k_ => some k_ ≠ (v169 : Value).ownBlock) (Kd.R_keptB ((Kd.R_apart' HO_10.out (Kd.R_typed HO_9.out) (by decide))) hkp (fun k_ hk_ hs_ => (hk_.2) hs_)) (fun k_ hk_ => hk_.1.1)); have n4_ := Aside0.mk (hb); clear HO_5; clear HO_6; clear HO_9; clear HO_10; clear HB; have HO_5 := n0_; have HO_6 := n1_; have HO_9 := n2_; have HO_10 := n3_; have HB := n4_; clear n0_ n1_ n2_ n3_ n4_; (try clear hb); (try clear hkp); (try clear hy0); obtain ⟨Ao72, co72, eo72⟩ := Kd.R_slice HO_10.out; subst eo72) | ((with_reducible refine gate_callee (f := 14) rfl ?_); refine goesL_ (some 85) rfl rfl Try.func14 (by kernel_rfl) rfl #[.slice Ao72 t175.length co72, .int .i64 t191] rfl (by (try simp only [List.map_toArray, List.map_cons, List.map_nil]); first | done | rfl | (simp only [List.length_drop, List.length_take]; rfl)) ?_; (with_reducible refine (laws_markInt64S.calls kj36 (fun k_ => some k_ = (.slice Ao72 t175.length co72 : Value).ownBlock) (.slice Ao72 t175.length co72) t175 t191 t193 t194 w _ ?side1 ?side2 A61.out).mono ?_); (case side1 => repeat (first | (with_reducible first | exact HB.out | apply below_alloc | apply pw_below_drewN | apply below_drew1) | exact HB.out)); (case side2 => exact Kd.R_tight rfl HO_10.out); rintro e w73 ⟨rfl, hy0, hb, hkp⟩; refine ⟨_, rfl, ?_⟩; have n0_ := Aside0.mk (Kd.R_mono (ok' := fun k_ => some k_ ≠ (.slice Ao70 t174.length co70 : Value).ownBlock) (Kd.R_keptB ((Kd.R_apart' HO_5.out (Kd.R_typed HO_10.out) (by decide))) hkp (fun k_ hk_ hs_ => (hk_.2) hs_)) (fun k_ hk_ => hk_.1.1)); have n1_ := Aside0.mk (Kd.R_mono (ok' := fun k_ => some k_ ≠ (.slice Ao72 t175.length co72 : Value).ownBlock) (Kd.R_keptB (HO_6.out) hkp (fun k_ hk_ hs_ => (hk_) hs_)) (fun k_ hk_ => hk_.1)); have n2_ := Aside0.mk (Kd.R_mono (ok' := fun k_ => some k_ ≠ (v167 : Value).ownBlock) (Kd.R_keptB ((Kd.R_apart' HO_9.out (Kd.R_typed HO_10.out) (by decide))) hkp (fun k_ hk_ hs_ => (hk_.2) hs_)) (fun k_ hk_ => hk_.1.1)); have n3_ := Aside0.mk (Kd.R_reok rfl hy0 (fun k_ e_ => HO_10.out.1 k_ e_)); have n4_ := Aside0.mk (hb); clear HO_5; clear HO_6; clear HO_9; clear HO_10; clear HB; have HO_5 := n0_; have HO_6 := n1_; have HO_9 := n2_; have HO_10 := n3_; have HB := n4_; clear n0_ n1_ n2_ n3_ n4_; (try clear hb); (try clear hkp); (try clear hy0)) | ((with_reducible refine gate_callee (f := 22) rfl ?_); refine goesL_ (some 88) rfl rfl Try.func22 (by kernel_rfl) rfl #[.slice Ao70 t192.length co70, .int .i64 1] rfl (by (try simp only [List.map_toArray, List.map_cons, List.map_nil]); first | done | (rw [show t192.length = t174.length from (Kd.R_reads' HO_9.out).1.symm] <;> rfl) | rfl | (simp only [List.length_drop, List.length_take]; rfl)) ?_; (with_reducible refine (laws_heldAskS.calls kj36 _ _ t192 1 t195 _ ?side1 ?side2 A62.out).mono ?_); (case side1 => repeat (first | exact (Kd.R_reads' HO_9.out).2.2 | (with_reducible refine Kd.C_alloc ?_ _) | (with_reducible refine Kd.C_drewN ?_ _) | (with_reducible refine Kd.C_drew ?_))); (case side2 => rw [show t192.length = t174.length from (Kd.R_reads' HO_9.out).1.symm]; exact (Kd.R_reads' HO_9.out).2.1); rintro e w' ⟨rfl, ⟨nd, rfl⟩⟩; refine ⟨_, rfl, ?_⟩) | ((with_reducible refine gate_callee (f := 15) rfl ?_); refine goesL_ (some 93) rfl rfl Try.func15 (by kernel_rfl) rfl #[.slice Ao72 t194.length co72, .int .i64 t195] rfl (by (try simp only [List.map_toArray, List.map_cons, List.map_nil]); first | done | (rw [show t194.length = t175.length from (Kd.R_reads' HO_10.out).1.symm] <;> rfl) | rfl | (simp only [List.length_drop, List.length_take]; rfl)) ?_; (with_reducible refine (laws_heldInt64S.calls kj36 _ _ t194 t195 t196 _ ?side1 ?side2 A64.out).mono ?_); (case side1 => repeat (first | exact (Kd.R_reads' HO_10.out).2.2 | (with_reducible refine Kd.C_alloc ?_ _) | (with_reducible refine Kd.C_drewN ?_ _) | (with_reducible refine Kd.C_drew ?_))); (case side2 => rw [show t194.length = t175.length from (Kd.R_reads' HO_10.out).1.symm]; exact (Kd.R_reads' HO_10.out).2.1); rintro e w' ⟨rfl, ⟨nd, rfl⟩⟩; refine ⟨_, rfl, ?_⟩) | ((with_reducible refine gate_callee (f := 17) rfl ?_); refine goesL_ (some 102) rfl rfl Try.func17 (by kernel_rfl) rfl #[.slice A1 l1.length c1] rfl (by (try simp only [List.map_toArray, List.map_cons, List.map_nil]); first | done | rfl | (simp only [List.length_drop, List.length_take]; rfl)) ?_; (with_reducible refine (laws_toBoolS.calls kj36 _ _ l1 t197 _ ?side1 ?side2 A67.out).mono ?_); (case side1 => repeat (first | exact (Kd.C_below HR1.out (by repeat (first | (with_reducible first | exact HB.out | apply below_alloc | apply pw_below_drewN | apply below_drew1) | exact HB.out))) | (with_reducible refine Kd.C_alloc ?_ _) | (with_reducible refine Kd.C_drewN ?_ _) | (with_reducible refine Kd.C_drew ?_))); (case side2 => exact HC1.out); rintro e w74 ⟨v198, rfl, ho0, hb⟩; refine ⟨_, rfl, ?_⟩; have n0_ := Aside0.mk (Kd.R_below (by (with_reducible repeat (first | apply Kd.R_alloc | apply Kd.R_drewN | apply Kd.R_drew)); exact HO_5.out) hb); have n1_ := Aside0.mk (Kd.R_below (by (with_reducible repeat (first | apply Kd.R_alloc | apply Kd.R_drewN | apply Kd.R_drew)); exact HO_6.out) hb); have n2_ := Aside0.mk (Kd.R_below (by (with_reducible repeat (first | apply Kd.R_alloc | apply Kd.R_drewN | apply Kd.R_drew)); exact HO_9.out) hb); have n3_ := Aside0.mk (Kd.R_below (by (with_reducible repeat (first | apply Kd.R_alloc | apply Kd.R_drewN | apply Kd.R_drew)); exact HO_10.out) hb); have n4_ := Aside0.mk (Kd.R_lower ho0 (below_size (by repeat (first | (with_reducible first | exact HB.out | apply below_alloc | apply pw_below_drewN | apply below_drew1) | exact HB.out)))); have n5_ := Aside0.mk (below_step (by repeat (first | (with_reducible first | exact HB.out | apply below_alloc | apply pw_below_drewN | apply below_drew1) | exact HB.out)) hb); clear HO_5; clear HO_6; clear HO_9; clear HO_10; clear HB; have HO_5 := n0_; have HO_6 := n1_; have HO_9 := n2_; have HO_10 := n3_; have HO199 := n4_; have HB := n5_; clear n0_ n1_ n2_ n3_ n4_ n5_; (try clear hb); (try clear hb2); (try clear hk); (try clear hi); (try clear ho0); obtain ⟨Ao75, co75, eo75⟩ := Kd.R_slice HO199.out; subst eo75) | ((with_reducible refine gate_callee (f := 9) rfl ?_); refine goesL_ (some 103) rfl rfl Try.func9 (by kernel_rfl) rfl #[.int .i64 a0, .slice Ao75 t197.length co75] rfl (by (try simp only [List.map_toArray, List.map_cons, List.map_nil]); first | done | rfl | (simp only [List.length_drop, List.length_take]; rfl)) ?_; (with_reducible refine (impl_SortPlan.calls a0 _ _ t197 t200 t201 t202 _ ?side1 ?side2 A68.out).mono ?_); (case side1 => repeat (first | exact (Kd.R_reads' HO199.out).2.2 | (with_reducible refine Kd.C_alloc ?_ _) | (with_reducible refine Kd.C_drewN ?_ _) | (with_reducible refine Kd.C_drew ?_))); (case side2 => exact (Kd.R_reads' HO199.out).2.1); rintro e w76 ⟨v203, v205, rfl, ho0, ho1, hb⟩; refine ⟨_, rfl, ?_⟩; have n0_ := Aside0.mk (Kd.R_elder' (by (with_reducible repeat (first | apply Kd.R_alloc | apply Kd.R_drewN | apply Kd.R_drew)); exact HO_5.out) (Kd.R_base ho0) hb); have n1_ := Aside0.mk (Kd.R_elder' (by (with_reducible repeat (first | apply Kd.R_alloc | apply Kd.R_drewN | apply Kd.R_drew)); exact HO_6.out) (Kd.R_base ho1) hb); have n2_ := Aside0.mk (Kd.R_elder' (by (with_reducible repeat (first | apply Kd.R_alloc | apply Kd.R_drewN | apply Kd.R_drew)); exact HO_9.out) (Kd.R_base ho0) hb); have n3_ := Aside0.mk (Kd.R_elder' (by (with_reducible repeat (first | apply Kd.R_alloc | apply Kd.R_drewN | apply Kd.R_drew)); exact HO_10.out) (Kd.R_base ho1) hb); have n4_ := Aside0.mk (Kd.R_below (by (with_reducible repeat (first | apply Kd.R_alloc | apply Kd.R_drewN | apply Kd.R_drew)); exact HO199.out) hb); have n5_ := Aside0.mk (Kd.R_lower (Kd.R_new' (Kd.R_new' ho0 (Kd.R_lt (by (with_reducible repeat (first | apply Kd.R_alloc | apply Kd.R_drewN | apply Kd.R_drew)); exact HO_5.out))) (Kd.R_lt (by (with_reducible repeat (first | apply Kd.R_alloc | apply Kd.R_drewN | apply Kd.R_drew)); exact HO_9.out))) (below_size (by repeat (first | (with_reducible first | exact HB.out | apply below_alloc | apply pw_below_drewN | apply below_drew1) | exact HB.out)))); have n6_ := Aside0.mk (Kd.R_lower (Kd.R_new' (Kd.R_new' ho1 (Kd.R_lt (by (with_reducible repeat (first | apply Kd.R_alloc | apply Kd.R_drewN | apply Kd.R_drew)); exact HO_6.out))) (Kd.R_lt (by (with_reducible repeat (first | apply Kd.R_alloc | apply Kd.R_drewN | apply Kd.R_drew)); exact HO_10.out))) (below_size (by repeat (first | (with_reducible first | exact HB.out | apply below_alloc | apply pw_below_drewN | apply below_drew1) | exact HB.out)))); have n7_ := Aside0.mk (below_step (by repeat (first | (with_reducible first | exact HB.out | apply below_alloc | apply pw_below_drewN | apply below_drew1) | exact HB.out)) hb); clear HO_5; clear HO_6; clear HO_9; clear HO_10; clear HO199; clear HB; have HO_5 := n0_; have HO_6 := n1_; have HO_9 := n2_; have HO_10 := n3_; have HO199 := n4_; have HO204 := n5_; have HO206 := n6_; have HB := n7_; clear n0_ n1_ n2_ n3_ n4_ n5_ n6_ n7_; (try clear hb); (try clear hb2); (try clear hk); (try clear hi); (try clear ho0); (try clear ho1)))
            (try simp only [Act.put, List.setIfInBounds_toArray, List.set_cons_zero, List.set_cons_succ])
            go_cut [121] (fun v121 wc => ∃ (kq : Nat) (x121_68 : Bool), v121 = .bool x121_68 ∧ Aside0 (laws_FnExactSortPlan.j2 kq t192 t194 t193 x121_68 = some r) ∧ Aside0 (kq ≤ kj36) ∧ Aside0 (Kd.R k34 34 wc w.heap.size (fun _ => True) (.slice Ao70 t174.length co70) t192) ∧ Aside0 (Kd.R (Kd.int .i64) 2 wc w.heap.size (fun _ => True) (.slice Ao72 t175.length co72) t194) ∧ Aside0 (Below w.heap.size w wc))
            case first =>
             have H := HC69.out
             clear HC69
             replace H := Option.bind_eq_some_iff.mp H
             obtain ⟨t207, A770, H⟩ := H
             replace H : (if t207 = true then ((laws_eqInt64S.f kj36 t201 t165).bind fun t208 => (if t208 = true then (laws_FnExactSortPlan.j2 kj36 t192 t194 t193 (t202 != t166)) else (laws_FnExactSortPlan.j2 kj36 t192 t194 t193 true))) else (laws_FnExactSortPlan.j2 kj36 t192 t194 t193 true)) = some r := H
             have A77 := Aside0.mk A770
             clear A770
             by_cases c78 : t207 = true
             ·subst c78
              have H1 : ((laws_eqInt64S.f kj36 t201 t165).bind fun t208 => (if t208 = true then (laws_FnExactSortPlan.j2 kj36 t192 t194 t193 (t202 != t166)) else (laws_FnExactSortPlan.j2 kj36 t192 t194 t193 true))) = some r := by rw [if_pos rfl] at H; exact H
              clear H
              have H := H1
              clear H1
              replace H := Option.bind_eq_some_iff.mp H
              obtain ⟨t208, A790, H⟩ := H
              replace H : (if t208 = true then (laws_FnExactSortPlan.j2 kj36 t192 t194 t193 (t202 != t166)) else (laws_FnExactSortPlan.j2 kj36 t192 t194 t193 true)) = some r := H
              have A79 := Aside0.mk A790
              clear A790
              by_cases c80 : t208 = true
              ·subst c80
               have H1 : (laws_FnExactSortPlan.j2 kj36 t192 t194 t193 (t202 != t166)) = some r := by rw [if_pos rfl] at H; exact H
               clear H
               have H := H1
               clear H1
               have H' := Aside0.mk H
               clear H
               obtain ⟨Ao81, co81, eo81⟩ := Kd.R_slice HO204.out
               subst eo81
               obtain ⟨Ao82, co82, eo82⟩ := Kd.R_slice HO_5.out
               subst eo82
               go_wp2_with (first | ((with_reducible refine gate_callee (f := 18) rfl ?_); refine goesL_ (some 109) rfl rfl Try.func18 (by kernel_rfl) rfl #[.slice Ao81 t200.length co81, .slice Ao82 t164.length co82] rfl (by (try simp only [List.map_toArray, List.map_cons, List.map_nil]); first | done | rfl | (simp only [List.length_drop, List.length_take]; rfl)) ?_; (with_reducible refine (laws_eqAskS.calls kj36 _ _ t200 _ _ t164 true _ ?side1 ?side2 ?side3 ?side4 A77.out).mono ?_); (case side1 => repeat (first | exact (Kd.R_reads' HO204.out).2.2 | (with_reducible refine Kd.C_alloc ?_ _) | (with_reducible refine Kd.C_drewN ?_ _) | (with_reducible refine Kd.C_drew ?_))); (case side2 => exact (Kd.R_reads' HO204.out).2.1); (case side3 => repeat (first | exact (Kd.R_reads' HO_5.out).2.2 | (with_reducible refine Kd.C_alloc ?_ _) | (with_reducible refine Kd.C_drewN ?_ _) | (with_reducible refine Kd.C_drew ?_))); (case side4 => exact (Kd.R_reads' HO_5.out).2.1); rintro e w83 ⟨rfl, hb⟩; refine ⟨_, rfl, ?_⟩; have n0_ := Aside0.mk (Kd.R_below (by (with_reducible repeat (first | apply Kd.R_alloc | apply Kd.R_drewN | apply Kd.R_drew)); exact HO_5.out) hb); have n1_ := Aside0.mk (Kd.R_below (by (with_reducible repeat (first | apply Kd.R_alloc | apply Kd.R_drewN | apply Kd.R_drew)); exact HO_6.out) hb); have n2_ := Aside0.mk (Kd.R_below (by (with_reducible repeat (first | apply Kd.R_alloc | apply Kd.R_drewN | apply Kd.R_drew)); exact HO_9.out) hb); have n3_ := Aside0.mk (Kd.R_below (by (with_reducible repeat (first | apply Kd.R_alloc | apply Kd.R_drewN | apply Kd.R_drew)); exact HO_10.out) hb); have n4_ := Aside0.mk (Kd.R_below (by (with_reducible repeat (first | apply Kd.R_alloc | apply Kd.R_drewN | apply Kd.R_drew)); exact HO199.out) hb); have n5_ := Aside0.mk (Kd.R_below (by (with_reducible repeat (first | apply Kd.R_alloc | apply Kd.R_drewN | apply Kd.R_drew)); exact HO204.out) hb); have n6_ := Aside0.mk (Kd.R_below (by (with_reducible repeat (first | apply Kd.R_alloc | apply Kd.R_drewN | apply Kd.R_drew)); exact HO206.out) hb); have n7_ := Aside0.mk (below_step (by repeat (first | (with_reducible first | exact HB.out | apply below_alloc | apply pw_below_drewN | apply below_drew1) | exact HB.out)) hb); clear HO_5; clear HO_6; clear HO_9; clear HO_10; clear HO199; clear HO204; clear HO206; clear HB; have HO_5 := n0_; have HO_6 := n1_; have HO_9 := n2_; have HO_10 := n3_; have HO199 := n4_; have HO204 := n5_; have HO206 := n6_; have HB := n7_; clear n0_ n1_ n2_ n3_ n4_ n5_ n6_ n7_; (try clear hb); (try clear hb2); (try clear hk); (try clear hi); obtain ⟨Ao84, co84, eo84⟩ := Kd.R_slice HO206.out; subst eo84; obtain ⟨Ao85, co85, eo85⟩ := Kd.R_slice HO_6.out; subst eo85) | (go_at_call 13; (with_reducible refine (laws_eqInt64S.calls kj36 _ _ t201 _ _ t165 true _ ?side1 ?side2 ?side3 ?side4 A79.out).mono ?_); (case side1 => repeat (first | exact (Kd.R_reads' HO206.out).2.2 | (with_reducible refine Kd.C_alloc ?_ _) | (with_reducible refine Kd.C_drewN ?_ _) | (with_reducible refine Kd.C_drew ?_))); (case side2 => exact (Kd.R_reads' HO206.out).2.1); (case side3 => repeat (first | exact (Kd.R_reads' HO_6.out).2.2 | (with_reducible refine Kd.C_alloc ?_ _) | (with_reducible refine Kd.C_drewN ?_ _) | (with_reducible refine Kd.C_drew ?_))); (case side4 => exact (Kd.R_reads' HO_6.out).2.1); rintro e w' ⟨rfl, ⟨nd, rfl⟩⟩))
               go_meet
               case rel => exact ⟨_, ((t202 != t166)), (by first | rfl | (simp; done) | (simp [*]; done)), H', ⟨by have := HJ7.out; have := HJ36.out; first | omega | exact Nat.le_refl _⟩, ⟨by (with_reducible repeat (first | apply Kd.R_alloc | apply Kd.R_drewN | apply Kd.R_drew)); exact Kd.R_mono HO_9.out (fun _ hk => trivial)⟩, ⟨by (with_reducible repeat (first | apply Kd.R_alloc | apply Kd.R_drewN | apply Kd.R_drew)); exact Kd.R_mono HO_10.out (fun _ hk => trivial)⟩, ⟨by repeat (first | (with_reducible first | exact HB.out | apply below_alloc | apply pw_below_drewN | apply below_drew1) | exact HB.out)⟩⟩
              ·replace c80 := Bool.eq_false_iff.mpr c80
               subst c80
               have H1 : (laws_FnExactSortPlan.j2 kj36 t192 t194 t193 true) = some r := by rw [if_neg (show ¬ (false = true) by decide)] at H; exact H
               clear H
               have H := H1
               clear H1
               have H' := Aside0.mk H
               clear H
               obtain ⟨Ao86, co86, eo86⟩ := Kd.R_slice HO204.out
               subst eo86
               obtain ⟨Ao87, co87, eo87⟩ := Kd.R_slice HO_5.out
               subst eo87
               go_wp2_with (first | ((with_reducible refine gate_callee (f := 18) rfl ?_); refine goesL_ (some 109) rfl rfl Try.func18 (by kernel_rfl) rfl #[.slice Ao86 t200.length co86, .slice Ao87 t164.length co87] rfl (by (try simp only [List.map_toArray, List.map_cons, List.map_nil]); first | done | rfl | (simp only [List.length_drop, List.length_take]; rfl)) ?_; (with_reducible refine (laws_eqAskS.calls kj36 _ _ t200 _ _ t164 true _ ?side1 ?side2 ?side3 ?side4 A77.out).mono ?_); (case side1 => repeat (first | exact (Kd.R_reads' HO204.out).2.2 | (with_reducible refine Kd.C_alloc ?_ _) | (with_reducible refine Kd.C_drewN ?_ _) | (with_reducible refine Kd.C_drew ?_))); (case side2 => exact (Kd.R_reads' HO204.out).2.1); (case side3 => repeat (first | exact (Kd.R_reads' HO_5.out).2.2 | (with_reducible refine Kd.C_alloc ?_ _) | (with_reducible refine Kd.C_drewN ?_ _) | (with_reducible refine Kd.C_drew ?_))); (case side4 => exact (Kd.R_reads' HO_5.out).2.1); rintro e w88 ⟨rfl, hb⟩; refine ⟨_, rfl, ?_⟩; have n0_ := Aside0.mk (Kd.R_below (by (with_reducible repeat (first | apply Kd.R_alloc | apply Kd.R_drewN | apply Kd.R_drew)); exact HO_5.out) hb); have n1_ := Aside0.mk (Kd.R_below (by (with_reducible repeat (first | apply Kd.R_alloc | apply Kd.R_drewN | apply Kd.R_drew)); exact HO_6.out) hb); have n2_ := Aside0.mk (Kd.R_below (by (with_reducible repeat (first | apply Kd.R_alloc | apply Kd.R_drewN | apply Kd.R_drew)); exact HO_9.out) hb); have n3_ := Aside0.mk (Kd.R_below (by (with_reducible repeat (first | apply Kd.R_alloc | apply Kd.R_drewN | apply Kd.R_drew)); exact HO_10.out) hb); have n4_ := Aside0.mk (Kd.R_below (by (with_reducible repeat (first | apply Kd.R_alloc | apply Kd.R_drewN | apply Kd.R_drew)); exact HO199.out) hb); have n5_ := Aside0.mk (Kd.R_below (by (with_reducible repeat (first | apply Kd.R_alloc | apply Kd.R_drewN | apply Kd.R_drew)); exact HO204.out) hb); have n6_ := Aside0.mk (Kd.R_below (by (with_reducible repeat (first | apply Kd.R_alloc | apply Kd.R_drewN | apply Kd.R_drew)); exact HO206.out) hb); have n7_ := Aside0.mk (below_step (by repeat (first | (with_reducible first | exact HB.out | apply below_alloc | apply pw_below_drewN | apply below_drew1) | exact HB.out)) hb); clear HO_5; clear HO_6; clear HO_9; clear HO_10; clear HO199; clear HO204; clear HO206; clear HB; have HO_5 := n0_; have HO_6 := n1_; have HO_9 := n2_; have HO_10 := n3_; have HO199 := n4_; have HO204 := n5_; have HO206 := n6_; have HB := n7_; clear n0_ n1_ n2_ n3_ n4_ n5_ n6_ n7_; (try clear hb); (try clear hb2); (try clear hk); (try clear hi); obtain ⟨Ao89, co89, eo89⟩ := Kd.R_slice HO206.out; subst eo89; obtain ⟨Ao90, co90, eo90⟩ := Kd.R_slice HO_6.out; subst eo90) | (go_at_call 13; (with_reducible refine (laws_eqInt64S.calls kj36 _ _ t201 _ _ t165 false _ ?side1 ?side2 ?side3 ?side4 A79.out).mono ?_); (case side1 => repeat (first | exact (Kd.R_reads' HO206.out).2.2 | (with_reducible refine Kd.C_alloc ?_ _) | (with_reducible refine Kd.C_drewN ?_ _) | (with_reducible refine Kd.C_drew ?_))); (case side2 => exact (Kd.R_reads' HO206.out).2.1); (case side3 => repeat (first | exact (Kd.R_reads' HO_6.out).2.2 | (with_reducible refine Kd.C_alloc ?_ _) | (with_reducible refine Kd.C_drewN ?_ _) | (with_reducible refine Kd.C_drew ?_))); (case side4 => exact (Kd.R_reads' HO_6.out).2.1); rintro e w' ⟨rfl, ⟨nd, rfl⟩⟩))
               go_meet
               case rel => exact ⟨_, (true), (by first | rfl | (simp; done) | (simp [*]; done)), H', ⟨by have := HJ7.out; have := HJ36.out; first | omega | exact Nat.le_refl _⟩, ⟨by (with_reducible repeat (first | apply Kd.R_alloc | apply Kd.R_drewN | apply Kd.R_drew)); exact Kd.R_mono HO_9.out (fun _ hk => trivial)⟩, ⟨by (with_reducible repeat (first | apply Kd.R_alloc | apply Kd.R_drewN | apply Kd.R_drew)); exact Kd.R_mono HO_10.out (fun _ hk => trivial)⟩, ⟨by repeat (first | (with_reducible first | exact HB.out | apply below_alloc | apply pw_below_drewN | apply below_drew1) | exact HB.out)⟩⟩
             ·replace c78 := Bool.eq_false_iff.mpr c78
              subst c78
              have H1 : (laws_FnExactSortPlan.j2 kj36 t192 t194 t193 true) = some r := by rw [if_neg (show ¬ (false = true) by decide)] at H; exact H
              clear H
              have H := H1
              clear H1
              have H' := Aside0.mk H
              clear H
              obtain ⟨Ao91, co91, eo91⟩ := Kd.R_slice HO204.out
              subst eo91
              obtain ⟨Ao92, co92, eo92⟩ := Kd.R_slice HO_5.out
              subst eo92
              go_wp2_with (first | ((with_reducible refine gate_callee (f := 18) rfl ?_); refine goesL_ (some 109) rfl rfl Try.func18 (by kernel_rfl) rfl #[.slice Ao91 t200.length co91, .slice Ao92 t164.length co92] rfl (by (try simp only [List.map_toArray, List.map_cons, List.map_nil]); first | done | rfl | (simp only [List.length_drop, List.length_take]; rfl)) ?_; (with_reducible refine (laws_eqAskS.calls kj36 _ _ t200 _ _ t164 false _ ?side1 ?side2 ?side3 ?side4 A77.out).mono ?_); (case side1 => repeat (first | exact (Kd.R_reads' HO204.out).2.2 | (with_reducible refine Kd.C_alloc ?_ _) | (with_reducible refine Kd.C_drewN ?_ _) | (with_reducible refine Kd.C_drew ?_))); (case side2 => exact (Kd.R_reads' HO204.out).2.1); (case side3 => repeat (first | exact (Kd.R_reads' HO_5.out).2.2 | (with_reducible refine Kd.C_alloc ?_ _) | (with_reducible refine Kd.C_drewN ?_ _) | (with_reducible refine Kd.C_drew ?_))); (case side4 => exact (Kd.R_reads' HO_5.out).2.1); rintro e w93 ⟨rfl, hb⟩; refine ⟨_, rfl, ?_⟩; have n0_ := Aside0.mk (Kd.R_below (by (with_reducible repeat (first | apply Kd.R_alloc | apply Kd.R_drewN | apply Kd.R_drew)); exact HO_5.out) hb); have n1_ := Aside0.mk (Kd.R_below (by (with_reducible repeat (first | apply Kd.R_alloc | apply Kd.R_drewN | apply Kd.R_drew)); exact HO_6.out) hb); have n2_ := Aside0.mk (Kd.R_below (by (with_reducible repeat (first | apply Kd.R_alloc | apply Kd.R_drewN | apply Kd.R_drew)); exact HO_9.out) hb); have n3_ := Aside0.mk (Kd.R_below (by (with_reducible repeat (first | apply Kd.R_alloc | apply Kd.R_drewN | apply Kd.R_drew)); exact HO_10.out) hb); have n4_ := Aside0.mk (Kd.R_below (by (with_reducible repeat (first | apply Kd.R_alloc | apply Kd.R_drewN | apply Kd.R_drew)); exact HO199.out) hb); have n5_ := Aside0.mk (Kd.R_below (by (with_reducible repeat (first | apply Kd.R_alloc | apply Kd.R_drewN | apply Kd.R_drew)); exact HO204.out) hb); have n6_ := Aside0.mk (Kd.R_below (by (with_reducible repeat (first | apply Kd.R_alloc | apply Kd.R_drewN | apply Kd.R_drew)); exact HO206.out) hb); have n7_ := Aside0.mk (below_step (by repeat (first | (with_reducible first | exact HB.out | apply below_alloc | apply pw_below_drewN | apply below_drew1) | exact HB.out)) hb); clear HO_5; clear HO_6; clear HO_9; clear HO_10; clear HO199; clear HO204; clear HO206; clear HB; have HO_5 := n0_; have HO_6 := n1_; have HO_9 := n2_; have HO_10 := n3_; have HO199 := n4_; have HO204 := n5_; have HO206 := n6_; have HB := n7_; clear n0_ n1_ n2_ n3_ n4_ n5_ n6_ n7_; (try clear hb); (try clear hb2); (try clear hk); (try clear hi)))
              go_meet
              case rel => exact ⟨_, (true), (by first | rfl | (simp; done) | (simp [*]; done)), H', ⟨by have := HJ7.out; have := HJ36.out; first | omega | exact Nat.le_refl _⟩, ⟨by (with_reducible repeat (first | apply Kd.R_alloc | apply Kd.R_drewN | apply Kd.R_drew)); exact Kd.R_mono HO_9.out (fun _ hk => trivial)⟩, ⟨by (with_reducible repeat (first | apply Kd.R_alloc | apply Kd.R_drewN | apply Kd.R_drew)); exact Kd.R_mono HO_10.out (fun _ hk => trivial)⟩, ⟨by repeat (first | (with_reducible first | exact HB.out | apply below_alloc | apply pw_below_drewN | apply below_drew1) | exact HB.out)⟩⟩
            case rest =>
             clear HC69
             try clear c1
             try clear c2
             try clear p2
             try clear c3
             try clear c3b0
             try clear c3b1
             try clear c4
             try clear c5
             try clear c6
             try clear c7
             try clear c8
             try clear c9
             try clear c14
             try clear c15
             try clear c16
             try clear c17
             try clear c18
             try clear c19
             try clear c20
             try clear c21
             try clear c22
             try clear c32
             try clear c35
             try clear c41
             try clear c41b0
             try clear c43
             try clear c45
             try clear c59
             try clear c63
             try clear c63b0
             try clear c65
             try clear c65b0
             try clear c66
             try clear c66b0
             try clear c66b1
             try clear c78
             try clear c80
             try clear p2
             obtain ⟨kq, x121_68, rfl, HA, HJ68, HO_9, HO_10, HB⟩ := hcut
             have hl9_68 := (Kd.R_reads' HO_9.out).1
             rw [hl9_68] at HO_9
             (try simp only [hl9_68])
             (try simp only [hl9_68] at HO_10)
             have hl10_68 := (Kd.R_reads' HO_10.out).1
             rw [hl10_68] at HO_10
             (try simp only [hl10_68])
             (try simp only [hl10_68] at HO_9)
             cases kq with
             | zero => exact absurd HA.out (by simp [laws_FnExactSortPlan.j2])
             | succ kj68 =>
              have H := HA.out
              clear HA
              simp only [laws_FnExactSortPlan.j2] at H
              by_cases c94 : x121_68 = true
              ·subst c94
               have H1 : (none) = some r := by rw [if_pos rfl] at H; exact H
               clear H
               have H := H1
               clear H1
               exact absurd H (by simp)
              ·replace c94 := Bool.eq_false_iff.mpr c94
               subst c94
               have H1 : ((laws_heldAskS.f kj68 t192 1).bind fun t209 => (if t209 < 0 then (none) else ((laws_heldInt64S.f kj68 t194 t209).bind fun t210 => (if t210 < 0 then (none) else (if t210 = t193 then (some true) else (none)))))) = some r := by rw [if_neg (show ¬ (false = true) by decide)] at H; exact H
               clear H
               have H := H1
               clear H1
               replace H := Option.bind_eq_some_iff.mp H
               obtain ⟨t209, A950, H⟩ := H
               replace H : (if t209 < 0 then (none) else ((laws_heldInt64S.f kj68 t194 t209).bind fun t210 => (if t210 < 0 then (none) else (if t210 = t193 then (some true) else (none))))) = some r := H
               have A95 := Aside0.mk A950
               clear A950
               by_cases c96 : t209 < 0
               ·rw [if_pos c96] at H
                exact absurd H (by simp)
               ·rw [if_neg c96] at H
                have c96b0 : decide (t209 < 0) = false := decide_eq_false c96
                clear c96
                replace H := Option.bind_eq_some_iff.mp H
                obtain ⟨t210, A970, H⟩ := H
                replace H : (if t210 < 0 then (none) else (if t210 = t193 then (some true) else (none))) = some r := H
                have A97 := Aside0.mk A970
                clear A970
                by_cases c98 : t210 < 0
                ·rw [if_pos c98] at H
                 exact absurd H (by simp)
                ·rw [if_neg c98] at H
                 have c98b0 : decide (t210 < 0) = false := decide_eq_false c98
                 clear c98
                 by_cases c99 : t210 = t193
                 ·rw [if_pos c99] at H
                  have c99b0 : (t210 == t193) = true := beq_iff_eq.mpr c99
                  have c99b1 : (t210 != t193) = false := bne_eq_false_iff_eq.mpr c99
                  clear c99
                  obtain rfl := Option.some.inj H
                  go_wp2_with (first | ((with_reducible refine gate_callee (f := 22) rfl ?_); refine goesL_ (some 124) rfl rfl Try.func22 (by kernel_rfl) rfl #[.slice Ao70 t192.length co70, .int .i64 1] rfl (by (try simp only [List.map_toArray, List.map_cons, List.map_nil]); first | done | rfl | (simp only [List.length_drop, List.length_take]; rfl)) ?_; (with_reducible refine (laws_heldAskS.calls kj68 _ _ t192 1 t209 _ ?side1 ?side2 A95.out).mono ?_); (case side1 => repeat (first | exact (Kd.R_reads' HO_9.out).2.2 | (with_reducible refine Kd.C_alloc ?_ _) | (with_reducible refine Kd.C_drewN ?_ _) | (with_reducible refine Kd.C_drew ?_))); (case side2 => exact (Kd.R_reads' HO_9.out).2.1); rintro e w' ⟨rfl, ⟨nd, rfl⟩⟩; refine ⟨_, rfl, ?_⟩) | ((with_reducible refine gate_callee (f := 15) rfl ?_); refine goesL_ (some 129) rfl rfl Try.func15 (by kernel_rfl) rfl #[.slice Ao72 t194.length co72, .int .i64 t209] rfl (by (try simp only [List.map_toArray, List.map_cons, List.map_nil]); first | done | rfl | (simp only [List.length_drop, List.length_take]; rfl)) ?_; (with_reducible refine (laws_heldInt64S.calls kj68 _ _ t194 t209 t210 _ ?side1 ?side2 A97.out).mono ?_); (case side1 => repeat (first | exact (Kd.R_reads' HO_10.out).2.2 | (with_reducible refine Kd.C_alloc ?_ _) | (with_reducible refine Kd.C_drewN ?_ _) | (with_reducible refine Kd.C_drew ?_))); (case side2 => exact (Kd.R_reads' HO_10.out).2.1); rintro e w' ⟨rfl, ⟨nd, rfl⟩⟩; refine ⟨_, rfl, ?_⟩))
                  go_ret
                  exact ⟨by first | rfl | (simp [errW_none, errW_some] <;> rfl) | (simp [*, errW_none, errW_some] <;> rfl), by repeat (first | (with_reducible first | exact HB.out | apply below_alloc | apply pw_below_drewN | apply below_drew1) | exact HB.out)⟩
                 ·rw [if_neg c99] at H
                  exact absurd H (by simp)
           ·rw [if_neg c66] at H
            exact absurd H (by simp)
     ·replace c35 := Bool.eq_false_iff.mpr c35
      subst c35
      have H1 : (none) = some r := by rw [if_neg (show ¬ (false = true) by decide)] at H; exact H
      clear H
      have H := H1
      clear H1
      exact absurd H (by simp)

/-! ### laws_big: function 6 -/
def laws_big.f (l0 : List Int) : Option (Bool) := some (decide ((l0.length : Int) > 1048576))
set_option maxHeartbeats 8000000 in
set_option maxRecDepth 100000 in
theorem laws_big.calls (A0 : Option Addr) (c0 : Nat) (l0 : List Int) (r : Bool) (w : World) (hr0 : Kd.C (Kd.int .u8) w A0 l0.length l0) (hc0 : l0.length ≤ c0) (h : laws_big.f l0 = some r) :
  Calls Try.prog 6 #[.slice A0 l0.length c0] w fun e w' => e = .returned (.bool r) ∧ Drawn0 w w' := by
 have HR0 := Aside0.mk hr0
 have HC0 := Aside0.mk hc0
 clear hr0 hc0
 have H : (some (decide ((l0.length : Int) > 1048576))) = some r := h
 clear h
 obtain rfl := Option.some.inj H
 go_enter Try.func6, Try.ntmps6
 go_wp2
 go_ret
 exact ⟨by first | rfl | (simp; done) | (simp [*]; done), by repeat (first | exact Drawn0.refl _ | apply Drawn0.step)⟩

end Go.Proofs.Ytdibbgldclgokaa.PS
