/- Go functions as Lean functions, and that each Go function comes to just that; printed by a program of this session (gprint.py over the kit's print.py). No condition. -/
import Derived.Test.YtkclfbmgnhmkhaaPCx0
import Derived.Test.YtkclfbmgnhmkhaaPCx1
namespace Go.Proofs.Ytkclfbmgnhmkhaa.PC
open Go.RowKit Go.Proofs.YtkclfbmgnhmkhaaW.PrintWords Go.Proofs.YtkclfbmgnhmkhaaW.PrintLast Go.Proofs.YtkclfbmgnhmkhaaW.PrintMore
attribute [local go_sem] max2_int min2_int max_two min_two max_three min_three max_four min_four   -- for this text's walks alone
set_option linter.unusedVariables false
set_option linter.unusedSimpArgs false

/-! ### spec_ClassesOk: function 11 -/
mutual
def spec_ClassesOk.l0 : Nat → List (S41) → Int → Option (Bool)
 | 0, _, _ => none
 | k + 1, x0, x3 => if x3 < (x0.length : Int) then (if 0 ≤ x3 then (if (((rd_T41 x0 x3).f0).length : Int) > x3 then (some false) else (spec_ClassesOk.l1 k x0 x3 ((rd_T41 x0 x3).f0) 0)) else (none)) else (some true)
def spec_ClassesOk.l1 : Nat → List (S41) → Int → List Int → Int → Option (Bool)
 | 0, _, _, _, _ => none
 | k + 1, x0, x3, x4, x5 => if x5 < (x4.length : Int) then (if 0 ≤ x5 then (if (rd x4 x5) < 0 then (spec_ClassesOk.j2 k x0 x3 x4 x5 true) else (spec_ClassesOk.j2 k x0 x3 x4 x5 (decide ((rd x4 x5) ≥ x3)))) else (none)) else (if 0 ≤ x3 then (if x3 < (x0.length : Int) then ((spec_l9AttrsOk.f k ((rd_T41 x0 x3).f1) true).bind fun t115 => (if t115 = true then (spec_ClassesOk.l0 k x0 (wrap64 (x3 + 1))) else (some false))) else (none)) else (none))
def spec_ClassesOk.j2 : Nat → List (S41) → Int → List Int → Int → Bool → Option (Bool)
 | 0, _, _, _, _, _ => none
 | k + 1, x0, x3, x4, x5, x43 => if x43 = true then (some false) else (spec_ClassesOk.l2 k x0 x3 x4 x5 0)
def spec_ClassesOk.l2 : Nat → List (S41) → Int → List Int → Int → Int → Option (Bool)
 | 0, _, _, _, _, _ => none
 | k + 1, x0, x3, x4, x5, x6 => if x6 < x5 then (if 0 ≤ x6 then (if x6 < (x4.length : Int) then (if 0 ≤ x5 then (if x5 < (x4.length : Int) then (if (rd x4 x6) = (rd x4 x5) then (some false) else (spec_ClassesOk.l2 k x0 x3 x4 x5 (wrap64 (x6 + 1)))) else (none)) else (none)) else (none)) else (none)) else (spec_ClassesOk.l1 k x0 x3 x4 (wrap64 (x5 + 1)))
end
def spec_ClassesOk.f (k : Nat) (l0 : List (S41)) : Option (Bool) := if (l0.length : Int) > 200 then (some false) else (spec_ClassesOk.l0 k l0 0)
set_option maxHeartbeats 8000000 in
set_option maxRecDepth 100000 in
theorem spec_ClassesOk.calls (k : Nat) (A0 : Option Addr) (c0 : Nat) (l0 : List (S41)) (r : Bool) (w : World) (hr0 : Kd.C k41 w A0 l0.length l0) (hc0 : l0.length ≤ c0) (h : spec_ClassesOk.f k l0 = some r) :
  Calls Try.prog 11 #[.slice A0 l0.length c0] w fun e w' => e = .returned (.bool r) ∧ Drawn0 w w' := by
 have HR0 := Aside0.mk hr0
 have HC0 := Aside0.mk hc0
 clear hr0 hc0
 have H : (if (l0.length : Int) > 200 then (some false) else (spec_ClassesOk.l0 k l0 0)) = some r := h
 clear h
 by_cases c2 : (l0.length : Int) > 200
 ·rw [if_pos c2] at H
  have c2b0 : decide (200 < (l0.length : Int)) = true := decide_eq_true c2
  have c2b1 : decide (200 < l0.length) = true := decide_eq_true (by omega)
  clear c2
  obtain rfl := Option.some.inj H
  go_enter Try.func11, Try.ntmps11
  go_wp2
  repeat (go_quiet (fail); try go_wp2)
  go_ret
  exact ⟨by first | rfl | (simp; done) | (simp [*]; done), by repeat (first | exact Drawn0.refl _ | apply Drawn0.step)⟩
 ·rw [if_neg c2] at H
  have c2b0 : decide (200 < (l0.length : Int)) = false := decide_eq_false c2
  have c2b1 : decide (200 < l0.length) = false := decide_eq_false (by omega)
  clear c2
  have H' := Aside0.mk H
  clear H
  go_enter Try.func11, Try.ntmps11
  go_wp2
  repeat (go_quiet (fail); try go_wp2)
  go_loopg [3] k (fun kq v3 w' => ∃ (x3_1 : Int), v3 = .int .i64 x3_1 ∧ Aside0 (spec_ClassesOk.l0 kq l0 x3_1 = some r) ∧ Aside0 (kq ≤ k) ∧ Drawn0 w w')
  case atStart => exact ⟨(0), (by first | rfl | (simp; done) | (simp [*]; done)), H', ⟨Nat.le_refl _⟩, by repeat (first | exact Drawn0.refl _ | apply Drawn0.step)⟩
  case round =>
   clear H'
   try clear c1
   try clear c2
   try clear c2b0
   try clear c2b1
   try clear p2
   obtain ⟨x3_1, rfl, HA, HK1, ⟨m1, rfl⟩⟩ := hrel
   cases gk with
   | zero => exact absurd HA.out (by simp [spec_ClassesOk.l0])
   | succ k1 =>
    have H := HA.out
    clear HA
    simp only [spec_ClassesOk.l0] at H
    by_cases c3 : x3_1 < (l0.length : Int)
    ·rw [if_pos c3] at H
     have c3b0 : decide (x3_1 < (l0.length : Int)) = true := decide_eq_true c3
     clear c3
     by_cases c4 : 0 ≤ x3_1
     ·rw [if_pos c4] at H
      have c4b0 : decide (0 ≤ x3_1) = true := decide_eq_true c4
      clear c4
      by_cases c5 : (((rd_T41 l0 x3_1).f0).length : Int) > x3_1
      ·rw [if_pos c5] at H
       have c5b0 : decide (x3_1 < (((rd_T41 l0 x3_1).f0).length : Int)) = true := decide_eq_true c5
       clear c5
       obtain rfl := Option.some.inj H
       have p113 : 0 ≤ (x3_1 : Int) := of_decide_eq_true (by first | (with_reducible assumption) | assumption)
       have q113 : x3_1 < (l0.length : Int) := of_decide_eq_true (by first | (with_reducible assumption) | assumption)
       obtain ⟨ad113, A113_0, c113_0, A113_1, c113_1, e113, hx113_0, hx113_1, hl113_0, hi113_0, hl113_1, hi113_1⟩ := at_T41 HR0.out x3_1 p113 q113
       cases e113
       have HR113_0 := Aside0.mk hi113_0
       have HC113_0 := Aside0.mk hl113_0
       clear hi113_0 hl113_0
       have HR113_1 := Aside0.mk hi113_1
       have HC113_1 := Aside0.mk hl113_1
       clear hi113_1 hl113_1
       replace p113 := eq_true p113
       replace q113 := eq_true q113
       go_wp2
       repeat (go_quiet (fail); try go_wp2)
       go_ret
       exact ⟨by first | rfl | (simp; done) | (simp [*]; done), by repeat (first | exact Drawn0.refl _ | apply Drawn0.step)⟩
      ·rw [if_neg c5] at H
       have c5b0 : decide (x3_1 < (((rd_T41 l0 x3_1).f0).length : Int)) = false := decide_eq_false c5
       clear c5
       have H' := Aside0.mk H
       clear H
       have p113 : 0 ≤ (x3_1 : Int) := of_decide_eq_true (by first | (with_reducible assumption) | assumption)
       have q113 : x3_1 < (l0.length : Int) := of_decide_eq_true (by first | (with_reducible assumption) | assumption)
       obtain ⟨ad113, A113_0, c113_0, A113_1, c113_1, e113, hx113_0, hx113_1, hl113_0, hi113_0, hl113_1, hi113_1⟩ := at_T41 HR0.out x3_1 p113 q113
       cases e113
       have HR113_0 := Aside0.mk hi113_0
       have HC113_0 := Aside0.mk hl113_0
       clear hi113_0 hl113_0
       have HR113_1 := Aside0.mk hi113_1
       have HC113_1 := Aside0.mk hl113_1
       clear hi113_1 hl113_1
       replace p113 := eq_true p113
       replace q113 := eq_true q113
       go_wp2
       repeat (go_quiet (fail); try go_wp2)
       go_loopg [5] k1 (fun kq v5 w' => ∃ (x5_2 : Int), v5 = .int .i64 x5_2 ∧ Aside0 (spec_ClassesOk.l1 kq l0 x3_1 ((rd_T41 l0 x3_1).f0) x5_2 = some r) ∧ Aside0 (kq ≤ k1) ∧ Drawn0 w w')
       case atStart => exact ⟨(0), (by first | rfl | (simp; done) | (simp [*]; done)), H', ⟨Nat.le_refl _⟩, by repeat (first | exact Drawn0.refl _ | apply Drawn0.step)⟩
       case round =>
        clear H'
        try clear c1
        try clear p1
        try clear q1
        try clear hx1
        try clear c2
        try clear c2b0
        try clear c2b1
        try clear p2
        try clear c3
        try clear c3b0
        try clear c4
        try clear c4b0
        try clear c5
        try clear c5b0
        try clear hx113_0
        try clear hx113_1
        try clear p113
        try clear p2
        try clear q113
        obtain ⟨x5_2, rfl, HA, HK2, ⟨m2, rfl⟩⟩ := hrel
        cases gk with
        | zero => exact absurd HA.out (by simp [spec_ClassesOk.l1])
        | succ k2 =>
         have H := HA.out
         clear HA
         simp only [spec_ClassesOk.l1] at H
         by_cases c6 : x5_2 < (((rd_T41 l0 x3_1).f0).length : Int)
         ·rw [if_pos c6] at H
          have c6b0 : decide (x5_2 < (((rd_T41 l0 x3_1).f0).length : Int)) = true := decide_eq_true c6
          clear c6
          have HC7 := Aside0.mk H
          clear H
          go_upto_region 12 with (fail)
          repeat (go_quiet (fail); go_upto_region 12 with (fail))
          go_cut [43] (fun v43 wc => ∃ (kq : Nat) (x43_6 : Bool), v43 = .bool x43_6 ∧ Aside0 (spec_ClassesOk.j2 kq l0 x3_1 ((rd_T41 l0 x3_1).f0) x5_2 x43_6 = some r) ∧ Aside0 (kq ≤ k2) ∧ Drawn0 w wc)
          case first =>
           have H := HC7.out
           clear HC7
           by_cases c8 : 0 ≤ x5_2
           ·rw [if_pos c8] at H
            have c8b0 : decide (0 ≤ x5_2) = true := decide_eq_true c8
            clear c8
            (first | rw [c8b0] | (simp only [i64_w, i32_w]; rw [c8b0]) | skip)
            by_cases c9 : (rd ((rd_T41 l0 x3_1).f0) x5_2) < 0
            ·rw [if_pos c9] at H
             have c9b0 : decide ((rd ((rd_T41 l0 x3_1).f0) x5_2) < 0) = true := decide_eq_true c9
             clear c9
             have H' := Aside0.mk H
             clear H
             have p116 : 0 ≤ (x5_2 : Int) := of_decide_eq_true (by first | (with_reducible assumption) | assumption)
             have q116 : x5_2 < (((rd_T41 l0 x3_1).f0).length : Int) := of_decide_eq_true (by first | (with_reducible assumption) | assumption)
             obtain ⟨ad116, e116, hx116_0⟩ := Kd.at_int HR113_0.out x5_2 p116 q116
             cases e116
             replace p116 := eq_true p116
             replace q116 := eq_true q116
             go_wp2
             repeat (go_quiet (fail); try go_wp2)
             go_meet
             case rel => exact ⟨_, (true), (by first | rfl | (simp; done) | (simp [*]; done)), H', ⟨by have := HK1.out; have := HK2.out; first | omega | exact Nat.le_refl _⟩, by repeat (first | exact Drawn0.refl _ | apply Drawn0.step)⟩
            ·rw [if_neg c9] at H
             have c9b0 : decide ((rd ((rd_T41 l0 x3_1).f0) x5_2) < 0) = false := decide_eq_false c9
             clear c9
             have H' := Aside0.mk H
             clear H
             have p116 : 0 ≤ (x5_2 : Int) := of_decide_eq_true (by first | (with_reducible assumption) | assumption)
             have q116 : x5_2 < (((rd_T41 l0 x3_1).f0).length : Int) := of_decide_eq_true (by first | (with_reducible assumption) | assumption)
             obtain ⟨ad116, e116, hx116_0⟩ := Kd.at_int HR113_0.out x5_2 p116 q116
             cases e116
             replace p116 := eq_true p116
             replace q116 := eq_true q116
             have p117 : 0 ≤ (x5_2 : Int) := of_decide_eq_true (by first | (with_reducible assumption) | assumption)
             have q117 : x5_2 < (((rd_T41 l0 x3_1).f0).length : Int) := of_decide_eq_true (by first | (with_reducible assumption) | assumption)
             obtain ⟨ad117, e117, hx117_0⟩ := Kd.at_int HR113_0.out x5_2 p117 q117
             obtain rfl : ad116 = ad117 := (by injection e117)
             replace p117 := eq_true p117
             replace q117 := eq_true q117
             go_wp2
             repeat (go_quiet (fail); try go_wp2)
             go_meet
             case rel => exact ⟨_, (decide ((rd ((rd_T41 l0 x3_1).f0) x5_2) ≥ x3_1)), (by first | rfl | (simp; done) | (simp [*]; done)), H', ⟨by have := HK1.out; have := HK2.out; first | omega | exact Nat.le_refl _⟩, by repeat (first | exact Drawn0.refl _ | apply Drawn0.step)⟩
           ·rw [if_neg c8] at H
            exact absurd H (by simp)
          case rest =>
           clear HC7
           try clear c1
           try clear p1
           try clear q1
           try clear hx1
           try clear c2
           try clear c2b0
           try clear c2b1
           try clear p2
           try clear c3
           try clear c3b0
           try clear c4
           try clear c4b0
           try clear c5
           try clear c5b0
           try clear c6
           try clear c6b0
           try clear c8
           try clear c8b0
           try clear c9
           try clear c9b0
           try clear hx113_0
           try clear hx113_1
           try clear hx116_0
           try clear hx117_0
           try clear p1
           try clear p113
           try clear p116
           try clear p117
           try clear p2
           try clear q1
           try clear q113
           try clear q116
           try clear q117
           obtain ⟨kq, x43_6, rfl, HA, HJ6, ⟨mc6, rfl⟩⟩ := hcut
           cases kq with
           | zero => exact absurd HA.out (by simp [spec_ClassesOk.j2])
           | succ kj6 =>
            have H := HA.out
            clear HA
            simp only [spec_ClassesOk.j2] at H
            by_cases c10 : x43_6 = true
            ·subst c10
             have H1 : (some false) = some r := by rw [if_pos rfl] at H; exact H
             clear H
             have H := H1
             clear H1
             obtain rfl := Option.some.inj H
             go_wp2
             repeat (go_quiet (fail); try go_wp2)
             go_ret
             exact ⟨by first | rfl | (simp; done) | (simp [*]; done), by repeat (first | exact Drawn0.refl _ | apply Drawn0.step)⟩
            ·replace c10 := Bool.eq_false_iff.mpr c10
             subst c10
             have H1 : (spec_ClassesOk.l2 kj6 l0 x3_1 ((rd_T41 l0 x3_1).f0) x5_2 0) = some r := by rw [if_neg (show ¬ (false = true) by decide)] at H; exact H
             clear H
             have H := H1
             clear H1
             have H' := Aside0.mk H
             clear H
             go_wp2
             repeat (go_quiet (fail); try go_wp2)
             go_loopg [6] kj6 (fun kq v6 w' => ∃ (x6_4 : Int), v6 = .int .i64 x6_4 ∧ Aside0 (spec_ClassesOk.l2 kq l0 x3_1 ((rd_T41 l0 x3_1).f0) x5_2 x6_4 = some r) ∧ Aside0 (kq ≤ kj6) ∧ Drawn0 w w')
             case atStart => exact ⟨(0), (by first | rfl | (simp; done) | (simp [*]; done)), H', ⟨Nat.le_refl _⟩, by repeat (first | exact Drawn0.refl _ | apply Drawn0.step)⟩
             case round =>
              clear H'
              try clear c1
              try clear p1
              try clear q1
              try clear hx1
              try clear c2
              try clear c2b0
              try clear c2b1
              try clear p2
              try clear c3
              try clear c3b0
              try clear c4
              try clear c4b0
              try clear c5
              try clear c5b0
              try clear c6
              try clear c6b0
              try clear c8
              try clear c8b0
              try clear c9
              try clear c9b0
              try clear c10
              try clear hx113_0
              try clear hx113_1
              try clear hx116_0
              try clear hx117_0
              try clear p1
              try clear p113
              try clear p116
              try clear p117
              try clear p2
              try clear q1
              try clear q113
              try clear q116
              try clear q117
              obtain ⟨x6_4, rfl, HA, HK4, ⟨m4, rfl⟩⟩ := hrel
              cases gk with
              | zero => exact absurd HA.out (by simp [spec_ClassesOk.l2])
              | succ k4 =>
               have H := HA.out
               clear HA
               simp only [spec_ClassesOk.l2] at H
               by_cases c11 : x6_4 < x5_2
               ·rw [if_pos c11] at H
                have c11b0 : decide (x6_4 < x5_2) = true := decide_eq_true c11
                clear c11
                by_cases c12 : 0 ≤ x6_4
                ·rw [if_pos c12] at H
                 have c12b0 : decide (0 ≤ x6_4) = true := decide_eq_true c12
                 clear c12
                 by_cases c13 : x6_4 < (((rd_T41 l0 x3_1).f0).length : Int)
                 ·rw [if_pos c13] at H
                  have c13b0 : decide (x6_4 < (((rd_T41 l0 x3_1).f0).length : Int)) = true := decide_eq_true c13
                  clear c13
                  by_cases c14 : 0 ≤ x5_2
                  ·rw [if_pos c14] at H
                   have c14b0 : decide (0 ≤ x5_2) = true := decide_eq_true c14
                   clear c14
                   by_cases c15 : x5_2 < (((rd_T41 l0 x3_1).f0).length : Int)
                   ·rw [if_pos c15] at H
                    have c15b0 : decide (x5_2 < (((rd_T41 l0 x3_1).f0).length : Int)) = true := decide_eq_true c15
                    clear c15
                    by_cases c16 : (rd ((rd_T41 l0 x3_1).f0) x6_4) = (rd ((rd_T41 l0 x3_1).f0) x5_2)
                    ·rw [if_pos c16] at H
                     have c16b0 : ((rd ((rd_T41 l0 x3_1).f0) x6_4) == (rd ((rd_T41 l0 x3_1).f0) x5_2)) = true := beq_iff_eq.mpr c16
                     have c16b1 : ((rd ((rd_T41 l0 x3_1).f0) x6_4) != (rd ((rd_T41 l0 x3_1).f0) x5_2)) = false := bne_eq_false_iff_eq.mpr c16
                     clear c16
                     obtain rfl := Option.some.inj H
                     have p118 : 0 ≤ (x6_4 : Int) := of_decide_eq_true (by first | (with_reducible assumption) | assumption)
                     have q118 : x6_4 < (((rd_T41 l0 x3_1).f0).length : Int) := of_decide_eq_true (by first | (with_reducible assumption) | assumption)
                     obtain ⟨ad118, e118, hx118_0⟩ := Kd.at_int HR113_0.out x6_4 p118 q118
                     cases e118
                     replace p118 := eq_true p118
                     replace q118 := eq_true q118
                     have p119 : 0 ≤ (x5_2 : Int) := of_decide_eq_true (by first | (with_reducible assumption) | assumption)
                     have q119 : x5_2 < (((rd_T41 l0 x3_1).f0).length : Int) := of_decide_eq_true (by first | (with_reducible assumption) | assumption)
                     obtain ⟨ad119, e119, hx119_0⟩ := Kd.at_int HR113_0.out x5_2 p119 q119
                     obtain rfl : ad118 = ad119 := (by injection e119)
                     replace p119 := eq_true p119
                     replace q119 := eq_true q119
                     go_wp2
                     repeat (go_quiet (fail); try go_wp2)
                     go_ret
                     exact ⟨by first | rfl | (simp; done) | (simp [*]; done), by repeat (first | exact Drawn0.refl _ | apply Drawn0.step)⟩
                    ·rw [if_neg c16] at H
                     have c16b0 : ((rd ((rd_T41 l0 x3_1).f0) x6_4) == (rd ((rd_T41 l0 x3_1).f0) x5_2)) = false := beq_eq_false_iff_ne.mpr c16
                     have c16b1 : ((rd ((rd_T41 l0 x3_1).f0) x6_4) != (rd ((rd_T41 l0 x3_1).f0) x5_2)) = true := bne_iff_ne.mpr c16
                     have H' := Aside0.mk H
                     clear H
                     have p118 : 0 ≤ (x6_4 : Int) := of_decide_eq_true (by first | (with_reducible assumption) | assumption)
                     have q118 : x6_4 < (((rd_T41 l0 x3_1).f0).length : Int) := of_decide_eq_true (by first | (with_reducible assumption) | assumption)
                     obtain ⟨ad118, e118, hx118_0⟩ := Kd.at_int HR113_0.out x6_4 p118 q118
                     cases e118
                     replace p118 := eq_true p118
                     replace q118 := eq_true q118
                     have p119 : 0 ≤ (x5_2 : Int) := of_decide_eq_true (by first | (with_reducible assumption) | assumption)
                     have q119 : x5_2 < (((rd_T41 l0 x3_1).f0).length : Int) := of_decide_eq_true (by first | (with_reducible assumption) | assumption)
                     obtain ⟨ad119, e119, hx119_0⟩ := Kd.at_int HR113_0.out x5_2 p119 q119
                     obtain rfl : ad118 = ad119 := (by injection e119)
                     replace p119 := eq_true p119
                     replace q119 := eq_true q119
                     go_wp2
                     repeat (go_quiet (fail); try go_wp2)
                     go_roundg k4
                     case measure => have := HK1.out; have := HK2.out; have := HJ6.out; have := HK4.out; omega
                     case rel => exact ⟨(wrap64 (x6_4 + 1)), (by first | rfl | (simp; done) | (simp [*]; done)), H', ⟨by have := HK1.out; have := HK2.out; have := HJ6.out; have := HK4.out; omega⟩, by repeat (first | exact Drawn0.refl _ | apply Drawn0.step)⟩
                   ·rw [if_neg c15] at H
                    exact absurd H (by simp)
                  ·rw [if_neg c14] at H
                   exact absurd H (by simp)
                 ·rw [if_neg c13] at H
                  exact absurd H (by simp)
                ·rw [if_neg c12] at H
                 exact absurd H (by simp)
               ·rw [if_neg c11] at H
                have c11b0 : decide (x6_4 < x5_2) = false := decide_eq_false c11
                clear c11
                have H' := Aside0.mk H
                clear H
                go_wp2
                repeat (go_quiet (fail); try go_wp2)
                go_roundg k4
                case measure => have := HK1.out; have := HK2.out; have := HJ6.out; have := HK4.out; omega
                case rel => exact ⟨(wrap64 (x5_2 + 1)), (by first | rfl | (simp; done) | (simp [*]; done)), H', ⟨by have := HK1.out; have := HK2.out; have := HJ6.out; have := HK4.out; omega⟩, by repeat (first | exact Drawn0.refl _ | apply Drawn0.step)⟩
         ·rw [if_neg c6] at H
          have c6b0 : decide (x5_2 < (((rd_T41 l0 x3_1).f0).length : Int)) = false := decide_eq_false c6
          clear c6
          by_cases c17 : 0 ≤ x3_1
          ·rw [if_pos c17] at H
           have c17b0 : decide (0 ≤ x3_1) = true := decide_eq_true c17
           clear c17
           by_cases c18 : x3_1 < (l0.length : Int)
           ·rw [if_pos c18] at H
            have c18b0 : decide (x3_1 < (l0.length : Int)) = true := decide_eq_true c18
            clear c18
            replace H := Option.bind_eq_some_iff.mp H
            obtain ⟨t115, A190, H⟩ := H
            replace H : (if t115 = true then (spec_ClassesOk.l0 k2 l0 (wrap64 (x3_1 + 1))) else (some false)) = some r := H
            have A19 := Aside0.mk A190
            clear A190
            by_cases c20 : t115 = true
            ·subst c20
             have H1 : (spec_ClassesOk.l0 k2 l0 (wrap64 (x3_1 + 1))) = some r := by rw [if_pos rfl] at H; exact H
             clear H
             have H := H1
             clear H1
             have H' := Aside0.mk H
             clear H
             have p114 : 0 ≤ (x3_1 : Int) := of_decide_eq_true (by first | (with_reducible assumption) | assumption)
             have q114 : x3_1 < (l0.length : Int) := of_decide_eq_true (by first | (with_reducible assumption) | assumption)
             obtain ⟨ad114, A114_0, c114_0, A114_1, c114_1, e114, hx114_0, hx114_1, hl114_0, hi114_0, hl114_1, hi114_1⟩ := at_T41 HR0.out x3_1 p114 q114
             obtain rfl : ad113 = ad114 := (by injection e114)
             have HR114_0 := Aside0.mk hi114_0
             have HC114_0 := Aside0.mk hl114_0
             clear hi114_0 hl114_0
             have HR114_1 := Aside0.mk hi114_1
             have HC114_1 := Aside0.mk hl114_1
             clear hi114_1 hl114_1
             replace p114 := eq_true p114
             replace q114 := eq_true q114
             go_wp2_with (first | (go_at_call 38; (with_reducible refine (spec_l9AttrsOk.calls k2 _ _ ((rd_T41 l0 x3_1).f1) true true _ ?side1 ?side2 A19.out).mono ?_); (case side1 => repeat (first | exact HR114_1.out | (with_reducible refine Kd.C_alloc ?_ _) | (with_reducible refine Kd.C_drewN ?_ _) | (with_reducible refine Kd.C_drew ?_))); (case side2 => exact HC114_1.out); rintro e w' ⟨rfl, ⟨nd, rfl⟩⟩; (try first | exact ⟨rfl, _, World.drewN_drewN _ _ _⟩ | exact ⟨rfl, _, Eq.trans (World.drewN_drewN _ _ _) (congrArg (World.drewN _) (Nat.add_assoc _ _ _))⟩)))
             repeat (go_quiet (first | (go_at_call 38; (with_reducible refine (spec_l9AttrsOk.calls k2 _ _ ((rd_T41 l0 x3_1).f1) true true _ ?side1 ?side2 A19.out).mono ?_); (case side1 => repeat (first | exact HR114_1.out | (with_reducible refine Kd.C_alloc ?_ _) | (with_reducible refine Kd.C_drewN ?_ _) | (with_reducible refine Kd.C_drew ?_))); (case side2 => exact HC114_1.out); rintro e w' ⟨rfl, ⟨nd, rfl⟩⟩; (try first | exact ⟨rfl, _, World.drewN_drewN _ _ _⟩ | exact ⟨rfl, _, Eq.trans (World.drewN_drewN _ _ _) (congrArg (World.drewN _) (Nat.add_assoc _ _ _))⟩))); try go_wp2_with (first | (go_at_call 38; (with_reducible refine (spec_l9AttrsOk.calls k2 _ _ ((rd_T41 l0 x3_1).f1) true true _ ?side1 ?side2 A19.out).mono ?_); (case side1 => repeat (first | exact HR114_1.out | (with_reducible refine Kd.C_alloc ?_ _) | (with_reducible refine Kd.C_drewN ?_ _) | (with_reducible refine Kd.C_drew ?_))); (case side2 => exact HC114_1.out); rintro e w' ⟨rfl, ⟨nd, rfl⟩⟩; (try first | exact ⟨rfl, _, World.drewN_drewN _ _ _⟩ | exact ⟨rfl, _, Eq.trans (World.drewN_drewN _ _ _) (congrArg (World.drewN _) (Nat.add_assoc _ _ _))⟩))))
             go_roundg k2
             case measure => have := HK1.out; have := HK2.out; omega
             case rel => exact ⟨(wrap64 (x3_1 + 1)), (by first | rfl | (simp; done) | (simp [*]; done)), H', ⟨by have := HK1.out; have := HK2.out; omega⟩, by repeat (first | exact Drawn0.refl _ | apply Drawn0.step)⟩
            ·replace c20 := Bool.eq_false_iff.mpr c20
             subst c20
             have H1 : (some false) = some r := by rw [if_neg (show ¬ (false = true) by decide)] at H; exact H
             clear H
             have H := H1
             clear H1
             obtain rfl := Option.some.inj H
             have p114 : 0 ≤ (x3_1 : Int) := of_decide_eq_true (by first | (with_reducible assumption) | assumption)
             have q114 : x3_1 < (l0.length : Int) := of_decide_eq_true (by first | (with_reducible assumption) | assumption)
             obtain ⟨ad114, A114_0, c114_0, A114_1, c114_1, e114, hx114_0, hx114_1, hl114_0, hi114_0, hl114_1, hi114_1⟩ := at_T41 HR0.out x3_1 p114 q114
             obtain rfl : ad113 = ad114 := (by injection e114)
             have HR114_0 := Aside0.mk hi114_0
             have HC114_0 := Aside0.mk hl114_0
             clear hi114_0 hl114_0
             have HR114_1 := Aside0.mk hi114_1
             have HC114_1 := Aside0.mk hl114_1
             clear hi114_1 hl114_1
             replace p114 := eq_true p114
             replace q114 := eq_true q114
             go_wp2_with (first | (go_at_call 38; (with_reducible refine (spec_l9AttrsOk.calls k2 _ _ ((rd_T41 l0 x3_1).f1) true false _ ?side1 ?side2 A19.out).mono ?_); (case side1 => repeat (first | exact HR114_1.out | (with_reducible refine Kd.C_alloc ?_ _) | (with_reducible refine Kd.C_drewN ?_ _) | (with_reducible refine Kd.C_drew ?_))); (case side2 => exact HC114_1.out); rintro e w' ⟨rfl, ⟨nd, rfl⟩⟩; (try first | exact ⟨rfl, _, World.drewN_drewN _ _ _⟩ | exact ⟨rfl, _, Eq.trans (World.drewN_drewN _ _ _) (congrArg (World.drewN _) (Nat.add_assoc _ _ _))⟩)))
             repeat (go_quiet (first | (go_at_call 38; (with_reducible refine (spec_l9AttrsOk.calls k2 _ _ ((rd_T41 l0 x3_1).f1) true false _ ?side1 ?side2 A19.out).mono ?_); (case side1 => repeat (first | exact HR114_1.out | (with_reducible refine Kd.C_alloc ?_ _) | (with_reducible refine Kd.C_drewN ?_ _) | (with_reducible refine Kd.C_drew ?_))); (case side2 => exact HC114_1.out); rintro e w' ⟨rfl, ⟨nd, rfl⟩⟩; (try first | exact ⟨rfl, _, World.drewN_drewN _ _ _⟩ | exact ⟨rfl, _, Eq.trans (World.drewN_drewN _ _ _) (congrArg (World.drewN _) (Nat.add_assoc _ _ _))⟩))); try go_wp2_with (first | (go_at_call 38; (with_reducible refine (spec_l9AttrsOk.calls k2 _ _ ((rd_T41 l0 x3_1).f1) true false _ ?side1 ?side2 A19.out).mono ?_); (case side1 => repeat (first | exact HR114_1.out | (with_reducible refine Kd.C_alloc ?_ _) | (with_reducible refine Kd.C_drewN ?_ _) | (with_reducible refine Kd.C_drew ?_))); (case side2 => exact HC114_1.out); rintro e w' ⟨rfl, ⟨nd, rfl⟩⟩; (try first | exact ⟨rfl, _, World.drewN_drewN _ _ _⟩ | exact ⟨rfl, _, Eq.trans (World.drewN_drewN _ _ _) (congrArg (World.drewN _) (Nat.add_assoc _ _ _))⟩))))
             go_ret
             exact ⟨by first | rfl | (simp; done) | (simp [*]; done), by repeat (first | exact Drawn0.refl _ | apply Drawn0.step)⟩
           ·rw [if_neg c18] at H
            exact absurd H (by simp)
          ·rw [if_neg c17] at H
           exact absurd H (by simp)
     ·rw [if_neg c4] at H
      exact absurd H (by simp)
    ·rw [if_neg c3] at H
     have c3b0 : decide (x3_1 < (l0.length : Int)) = false := decide_eq_false c3
     clear c3
     obtain rfl := Option.some.inj H
     go_wp2
     repeat (go_quiet (fail); try go_wp2)
     go_ret
     exact ⟨by first | rfl | (simp; done) | (simp [*]; done), by repeat (first | exact Drawn0.refl _ | apply Drawn0.step)⟩

/-! ### laws_toAttr: function 54 -/
def laws_toAttr.f (a0_0 : ByteArray) (a0_1 : Int) (a0_2 : Int) : Option (ByteArray × Int × Int) := some (a0_0, a0_1, a0_2)
/-! ### laws_toAttrS: function 27 -/
def laws_toAttrS.l0 : Nat → List (S81) → List (S48) → Int → Option ((List (S48)))
 | 0, _, _, _ => none
 | k + 1, x0, x3, x4 => if x4 < (x0.length : Int) then (if 0 ≤ x4 then ((laws_toAttr.f ((rd_T81 x0 x4).f0) ((rd_T81 x0 x4).f1) ((rd_T81 x0 x4).f2)).bind fun bt127 => (if x4 < (x3.length : Int) then (laws_toAttrS.l0 k x0 (x3.set (x4 : Int).toNat (⟨bt127.1, bt127.2.1, bt127.2.2⟩ : S48)) (wrap64 (x4 + 1))) else (none))) else (none)) else (some x3)
def laws_toAttrS.f (k : Nat) (l0 : List (S81)) : Option ((List (S48))) := if 0 ≤ (l0.length : Int) then (if ((l0.length : Int) : Int).toNat ≤ 8796093022208 then (laws_toAttrS.l0 k l0 (List.replicate ((l0.length : Int) : Int).toNat z48) 0) else (none)) else (none)
/-! ### laws_toInt64S: function 61 -/
def laws_toInt64S.l0 : Nat → List Int → List Int → Int → Option (List Int)
 | 0, _, _, _ => none
 | k + 1, x0, x3, x4 => if x4 < (x0.length : Int) then (if 0 ≤ x4 then (if x4 < (x3.length : Int) then (laws_toInt64S.l0 k x0 (x3.set (x4 : Int).toNat (rd x0 x4)) (wrap64 (x4 + 1))) else (none)) else (none)) else (some x3)
def laws_toInt64S.f (k : Nat) (l0 : List Int) : Option (List Int) := if 0 ≤ (l0.length : Int) then (if ((l0.length : Int) : Int).toNat ≤ 35184372088832 then (laws_toInt64S.l0 k l0 (List.replicate ((l0.length : Int) : Int).toNat 0) 0) else (none)) else (none)
end Go.Proofs.Ytkclfbmgnhmkhaa.PC
