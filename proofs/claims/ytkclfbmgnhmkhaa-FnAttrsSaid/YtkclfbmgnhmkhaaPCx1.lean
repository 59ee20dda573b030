/- Go functions as Lean functions, and that each Go function comes to just that; printed by a program of this session (gprint.py over the kit's print.py). No condition. -/
import Derived.Test.YtkclfbmgnhmkhaaPCx0
namespace Go.Proofs.Ytkclfbmgnhmkhaa.PC
open Go.RowKit Go.Proofs.YtkclfbmgnhmkhaaW.PrintWords Go.Proofs.YtkclfbmgnhmkhaaW.PrintLast Go.Proofs.YtkclfbmgnhmkhaaW.PrintMore
attribute [local go_sem] max2_int min2_int max_two min_two max_three min_three max_four min_four   -- for this text's walks alone
set_option linter.unusedVariables false
set_option linter.unusedSimpArgs false

/-! ### laws_szAttr: function 53 -/
def laws_szAttr.f (a0_0 : ByteArray) (a0_1 : Int) (a0_2 : Int) (a1 : Int) : Option (Int) := if (wrap64 (a1 - (a0_0.size : Int))) < 0 then (some (-1)) else (some (wrap64 (a1 - (a0_0.size : Int))))
/-! ### laws_szAttrS: function 25 -/
def laws_szAttrS.l0 : Nat → List (S81) → Int → Int → Option (Int)
 | 0, _, _, _ => none
 | k + 1, x0, x1, x5 => if x5 < (x0.length : Int) then (if 0 ≤ x5 then ((laws_szAttr.f ((rd_T81 x0 x5).f0) ((rd_T81 x0 x5).f1) ((rd_T81 x0 x5).f2) x1).bind fun t103 => (if t103 < 0 then (some (-1)) else (laws_szAttrS.l0 k x0 t103 (wrap64 (x5 + 1))))) else (none)) else (some x1)
def laws_szAttrS.f (k : Nat) (l0 : List (S81)) (a1 : Int) : Option (Int) := if (wrap64 (a1 - (l0.length : Int))) < 0 then (some (-1)) else (laws_szAttrS.l0 k l0 (wrap64 (a1 - (l0.length : Int))) 0)
/-! ### laws_szInt64S: function 60 -/
def laws_szInt64S.f (l0 : List Int) (a1 : Int) : Option (Int) := if (wrap64 (a1 - (l0.length : Int))) < 0 then (some (-1)) else (some (wrap64 (a1 - (l0.length : Int))))
/-! ### laws_szClass: function 37 -/
def laws_szClass.f (k : Nat) (l0_0 : List Int) (l0_1 : List (S81)) (a1 : Int) : Option (Int) := (laws_szInt64S.f l0_0 a1).bind fun t105 => (if t105 < 0 then (some (-1)) else ((laws_szAttrS.f k l0_1 t105).bind fun t106 => (if t106 < 0 then (some (-1)) else (some t106))))
/-! ### laws_szClassS: function 10 -/
def laws_szClassS.l0 : Nat → List (S61) → Int → Int → Option (Int)
 | 0, _, _, _ => none
 | k + 1, x0, x1, x5 => if x5 < (x0.length : Int) then (if 0 ≤ x5 then ((laws_szClass.f k ((rd_T61 x0 x5).f0) ((rd_T61 x0 x5).f1) x1).bind fun t108 => (if t108 < 0 then (some (-1)) else (laws_szClassS.l0 k x0 t108 (wrap64 (x5 + 1))))) else (none)) else (some x1)
def laws_szClassS.f (k : Nat) (l0 : List (S61)) (a1 : Int) : Option (Int) := if (wrap64 (a1 - (l0.length : Int))) < 0 then (some (-1)) else (laws_szClassS.l0 k l0 (wrap64 (a1 - (l0.length : Int))) 0)
/-! ### spec_l9AttrsOk: function 38 -/
mutual
def spec_l9AttrsOk.l0 : Nat → List (S48) → Bool → Int → Option (Bool)
 | 0, _, _, _ => none
 | k + 1, x0, x1, x5 => if x5 < (x0.length : Int) then (if x1 = true then (if 0 ≤ x5 then (if ((rd_T48 x0 x5).f1) < 0 then (spec_l9AttrsOk.j1 k x0 x1 x5 true) else (spec_l9AttrsOk.j1 k x0 x1 x5 (decide (((rd_T48 x0 x5).f1) > 2)))) else (none)) else (spec_l9AttrsOk.j1 k x0 x1 x5 false)) else (some true)
def spec_l9AttrsOk.j1 : Nat → List (S48) → Bool → Int → Bool → Option (Bool)
 | 0, _, _, _, _ => none
 | k + 1, x0, x1, x5, x32 => if x32 = true then (some false) else (spec_l9AttrsOk.l1 k x0 x1 x5 0)
def spec_l9AttrsOk.l1 : Nat → List (S48) → Bool → Int → Int → Option (Bool)
 | 0, _, _, _, _ => none
 | k + 1, x0, x1, x5, x6 => if x6 < x5 then (if 0 ≤ x6 then (if x6 < (x0.length : Int) then (if 0 ≤ x5 then (if x5 < (x0.length : Int) then (if ((rd_T48 x0 x6).f0).toList = ((rd_T48 x0 x5).f0).toList then (some false) else (spec_l9AttrsOk.l1 k x0 x1 x5 (wrap64 (x6 + 1)))) else (none)) else (none)) else (none)) else (none)) else (spec_l9AttrsOk.l0 k x0 x1 (wrap64 (x5 + 1)))
end
def spec_l9AttrsOk.f (k : Nat) (l0 : List (S48)) (a1 : Bool) : Option (Bool) := if (l0.length : Int) > 100 then (some false) else (spec_l9AttrsOk.l0 k l0 a1 0)
set_option maxHeartbeats 8000000 in
set_option maxRecDepth 100000 in
theorem spec_l9AttrsOk.calls (k : Nat) (A0 : Option Addr) (c0 : Nat) (l0 : List (S48)) (a1 : Bool) (r : Bool) (w : World) (hr0 : Kd.C k48 w A0 l0.length l0) (hc0 : l0.length ≤ c0) (h : spec_l9AttrsOk.f k l0 a1 = some r) :
  Calls Try.prog 38 #[.slice A0 l0.length c0, .bool a1] w fun e w' => e = .returned (.bool r) ∧ Drawn0 w w' := by
 have HR0 := Aside0.mk hr0
 have HC0 := Aside0.mk hc0
 clear hr0 hc0
 have H : (if (l0.length : Int) > 100 then (some false) else (spec_l9AttrsOk.l0 k l0 a1 0)) = some r := h
 clear h
 by_cases c3 : (l0.length : Int) > 100
 ·rw [if_pos c3] at H
  have c3b0 : decide (100 < (l0.length : Int)) = true := decide_eq_true c3
  have c3b1 : decide (100 < l0.length) = true := decide_eq_true (by omega)
  clear c3
  obtain rfl := Option.some.inj H
  go_enter Try.func38, Try.ntmps38
  go_wp2
  repeat (go_quiet (fail); try go_wp2)
  go_ret
  exact ⟨by first | rfl | (simp; done) | (simp [*]; done), by repeat (first | exact Drawn0.refl _ | apply Drawn0.step)⟩
 ·rw [if_neg c3] at H
  have c3b0 : decide (100 < (l0.length : Int)) = false := decide_eq_false c3
  have c3b1 : decide (100 < l0.length) = false := decide_eq_false (by omega)
  clear c3
  have H' := Aside0.mk H
  clear H
  go_enter Try.func38, Try.ntmps38
  go_wp2
  repeat (go_quiet (fail); try go_wp2)
  go_loopg [5] k (fun kq v5 w' => ∃ (x5_1 : Int), v5 = .int .i64 x5_1 ∧ Aside0 (spec_l9AttrsOk.l0 kq l0 a1 x5_1 = some r) ∧ Aside0 (kq ≤ k) ∧ Drawn0 w w')
  case atStart => exact ⟨(0), (by first | rfl | (simp; done) | (simp [*]; done)), H', ⟨Nat.le_refl _⟩, by repeat (first | exact Drawn0.refl _ | apply Drawn0.step)⟩
  case round =>
   clear H'
   try clear p2
   try clear c3
   try clear c3b0
   try clear c3b1
   obtain ⟨x5_1, rfl, HA, HK1, ⟨m1, rfl⟩⟩ := hrel
   cases gk with
   | zero => exact absurd HA.out (by simp [spec_l9AttrsOk.l0])
   | succ k1 =>
    have H := HA.out
    clear HA
    simp only [spec_l9AttrsOk.l0] at H
    by_cases c4 : x5_1 < (l0.length : Int)
    ·rw [if_pos c4] at H
     have c4b0 : decide (x5_1 < (l0.length : Int)) = true := decide_eq_true c4
     clear c4
     have HC5 := Aside0.mk H
     clear H
     go_upto_region 6 with (fail)
     repeat (go_quiet (fail); go_upto_region 6 with (fail))
     go_cut [32] (fun v32 wc => ∃ (kq : Nat) (x32_4 : Bool), v32 = .bool x32_4 ∧ Aside0 (spec_l9AttrsOk.j1 kq l0 a1 x5_1 x32_4 = some r) ∧ Aside0 (kq ≤ k1) ∧ Drawn0 w wc)
     case first =>
      have H := HC5.out
      clear HC5
      by_cases c6 : a1 = true
      ·subst c6
       have H1 : (if 0 ≤ x5_1 then (if ((rd_T48 l0 x5_1).f1) < 0 then (spec_l9AttrsOk.j1 k1 l0 true x5_1 true) else (spec_l9AttrsOk.j1 k1 l0 true x5_1 (decide (((rd_T48 l0 x5_1).f1) > 2)))) else (none)) = some r := by rw [if_pos rfl] at H; exact H
       clear H
       have H := H1
       clear H1
       by_cases c7 : 0 ≤ x5_1
       ·rw [if_pos c7] at H
        have c7b0 : decide (0 ≤ x5_1) = true := decide_eq_true c7
        clear c7
        (first | rw [c7b0] | (simp only [i64_w, i32_w]; rw [c7b0]) | skip)
        by_cases c8 : ((rd_T48 l0 x5_1).f1) < 0
        ·rw [if_pos c8] at H
         have c8b0 : decide (((rd_T48 l0 x5_1).f1) < 0) = true := decide_eq_true c8
         clear c8
         have H' := Aside0.mk H
         clear H
         have p109 : 0 ≤ (x5_1 : Int) := of_decide_eq_true (by first | (with_reducible assumption) | assumption)
         have q109 : x5_1 < (l0.length : Int) := of_decide_eq_true (by first | (with_reducible assumption) | assumption)
         obtain ⟨ad109, e109, hx109_0, hx109_1, hx109_2⟩ := at_T48 HR0.out x5_1 p109 q109
         cases e109
         replace p109 := eq_true p109
         replace q109 := eq_true q109
         go_wp2
         repeat (go_quiet (fail); try go_wp2)
         go_meet
         case rel => exact ⟨_, (true), (by first | rfl | (simp; done) | (simp [*]; done)), H', ⟨by have := HK1.out; first | omega | exact Nat.le_refl _⟩, by repeat (first | exact Drawn0.refl _ | apply Drawn0.step)⟩
        ·rw [if_neg c8] at H
         have c8b0 : decide (((rd_T48 l0 x5_1).f1) < 0) = false := decide_eq_false c8
         clear c8
         have H' := Aside0.mk H
         clear H
         have p109 : 0 ≤ (x5_1 : Int) := of_decide_eq_true (by first | (with_reducible assumption) | assumption)
         have q109 : x5_1 < (l0.length : Int) := of_decide_eq_true (by first | (with_reducible assumption) | assumption)
         obtain ⟨ad109, e109, hx109_0, hx109_1, hx109_2⟩ := at_T48 HR0.out x5_1 p109 q109
         cases e109
         replace p109 := eq_true p109
         replace q109 := eq_true q109
         have p110 : 0 ≤ (x5_1 : Int) := of_decide_eq_true (by first | (with_reducible assumption) | assumption)
         have q110 : x5_1 < (l0.length : Int) := of_decide_eq_true (by first | (with_reducible assumption) | assumption)
         obtain ⟨ad110, e110, hx110_0, hx110_1, hx110_2⟩ := at_T48 HR0.out x5_1 p110 q110
         obtain rfl : ad109 = ad110 := (by injection e110)
         replace p110 := eq_true p110
         replace q110 := eq_true q110
         go_wp2
         repeat (go_quiet (fail); try go_wp2)
         go_meet
         case rel => exact ⟨_, (decide (((rd_T48 l0 x5_1).f1) > 2)), (by first | rfl | (simp; done) | (simp [*]; done)), H', ⟨by have := HK1.out; first | omega | exact Nat.le_refl _⟩, by repeat (first | exact Drawn0.refl _ | apply Drawn0.step)⟩
       ·rw [if_neg c7] at H
        exact absurd H (by simp)
      ·replace c6 := Bool.eq_false_iff.mpr c6
       subst c6
       have H1 : (spec_l9AttrsOk.j1 k1 l0 false x5_1 false) = some r := by rw [if_neg (show ¬ (false = true) by decide)] at H; exact H
       clear H
       have H := H1
       clear H1
       have H' := Aside0.mk H
       clear H
       go_wp2
       repeat (go_quiet (fail); try go_wp2)
       go_meet
       case rel => exact ⟨_, (false), (by first | rfl | (simp; done) | (simp [*]; done)), H', ⟨by have := HK1.out; first | omega | exact Nat.le_refl _⟩, by repeat (first | exact Drawn0.refl _ | apply Drawn0.step)⟩
     case rest =>
      clear HC5
      try clear p1
      try clear q1
      try clear hx1
      try clear p2
      try clear c3
      try clear c3b0
      try clear c3b1
      try clear c4
      try clear c4b0
      try clear c6
      try clear c7
      try clear c7b0
      try clear c8
      try clear c8b0
      try clear hx109_0
      try clear hx109_1
      try clear hx109_2
      try clear hx110_0
      try clear hx110_1
      try clear hx110_2
      try clear p109
      try clear p110
      try clear p2
      try clear q109
      try clear q110
      obtain ⟨kq, x32_4, rfl, HA, HJ4, ⟨mc4, rfl⟩⟩ := hcut
      cases kq with
      | zero => exact absurd HA.out (by simp [spec_l9AttrsOk.j1])
      | succ kj4 =>
       have H := HA.out
       clear HA
       simp only [spec_l9AttrsOk.j1] at H
       by_cases c9 : x32_4 = true
       ·subst c9
        have H1 : (some false) = some r := by rw [if_pos rfl] at H; exact H
        clear H
        have H := H1
        clear H1
        obtain rfl := Option.some.inj H
        go_wp2
        repeat (go_quiet (fail); try go_wp2)
        go_ret
        exact ⟨by first | rfl | (simp; done) | (simp [*]; done), by repeat (first | exact Drawn0.refl _ | apply Drawn0.step)⟩
       ·replace c9 := Bool.eq_false_iff.mpr c9
        subst c9
        have H1 : (spec_l9AttrsOk.l1 kj4 l0 a1 x5_1 0) = some r := by rw [if_neg (show ¬ (false = true) by decide)] at H; exact H
        clear H
        have H := H1
        clear H1
        have H' := Aside0.mk H
        clear H
        go_wp2
        repeat (go_quiet (fail); try go_wp2)
        go_loopg [6] kj4 (fun kq v6 w' => ∃ (x6_3 : Int), v6 = .int .i64 x6_3 ∧ Aside0 (spec_l9AttrsOk.l1 kq l0 a1 x5_1 x6_3 = some r) ∧ Aside0 (kq ≤ kj4) ∧ Drawn0 w w')
        case atStart => exact ⟨(0), (by first | rfl | (simp; done) | (simp [*]; done)), H', ⟨Nat.le_refl _⟩, by repeat (first | exact Drawn0.refl _ | apply Drawn0.step)⟩
        case round =>
         clear H'
         try clear p1
         try clear q1
         try clear hx1
         try clear p2
         try clear c3
         try clear c3b0
         try clear c3b1
         try clear c4
         try clear c4b0
         try clear c6
         try clear c7
         try clear c7b0
         try clear c8
         try clear c8b0
         try clear c9
         try clear hx109_0
         try clear hx109_1
         try clear hx109_2
         try clear hx110_0
         try clear hx110_1
         try clear hx110_2
         try clear p1
         try clear p109
         try clear p110
         try clear p2
         try clear q1
         try clear q109
         try clear q110
         obtain ⟨x6_3, rfl, HA, HK3, ⟨m3, rfl⟩⟩ := hrel
         cases gk with
         | zero => exact absurd HA.out (by simp [spec_l9AttrsOk.l1])
         | succ k3 =>
          have H := HA.out
          clear HA
          simp only [spec_l9AttrsOk.l1] at H
          by_cases c10 : x6_3 < x5_1
          ·rw [if_pos c10] at H
           have c10b0 : decide (x6_3 < x5_1) = true := decide_eq_true c10
           clear c10
           by_cases c11 : 0 ≤ x6_3
           ·rw [if_pos c11] at H
            have c11b0 : decide (0 ≤ x6_3) = true := decide_eq_true c11
            clear c11
            by_cases c12 : x6_3 < (l0.length : Int)
            ·rw [if_pos c12] at H
             have c12b0 : decide (x6_3 < (l0.length : Int)) = true := decide_eq_true c12
             clear c12
             by_cases c13 : 0 ≤ x5_1
             ·rw [if_pos c13] at H
              have c13b0 : decide (0 ≤ x5_1) = true := decide_eq_true c13
              clear c13
              by_cases c14 : x5_1 < (l0.length : Int)
              ·rw [if_pos c14] at H
               have c14b0 : decide (x5_1 < (l0.length : Int)) = true := decide_eq_true c14
               clear c14
               by_cases c15 : ((rd_T48 l0 x6_3).f0).toList = ((rd_T48 l0 x5_1).f0).toList
               ·rw [if_pos c15] at H
                have c15b0 : (((rd_T48 l0 x6_3).f0).toList == ((rd_T48 l0 x5_1).f0).toList) = true := beq_iff_eq.mpr c15
                have c15b1 : (((rd_T48 l0 x6_3).f0).toList != ((rd_T48 l0 x5_1).f0).toList) = false := bne_eq_false_iff_eq.mpr c15
                clear c15
                obtain rfl := Option.some.inj H
                have p111 : 0 ≤ (x6_3 : Int) := of_decide_eq_true (by first | (with_reducible assumption) | assumption)
                have q111 : x6_3 < (l0.length : Int) := of_decide_eq_true (by first | (with_reducible assumption) | assumption)
                obtain ⟨ad111, e111, hx111_0, hx111_1, hx111_2⟩ := at_T48 HR0.out x6_3 p111 q111
                cases e111
                replace p111 := eq_true p111
                replace q111 := eq_true q111
                have p112 : 0 ≤ (x5_1 : Int) := of_decide_eq_true (by first | (with_reducible assumption) | assumption)
                have q112 : x5_1 < (l0.length : Int) := of_decide_eq_true (by first | (with_reducible assumption) | assumption)
                obtain ⟨ad112, e112, hx112_0, hx112_1, hx112_2⟩ := at_T48 HR0.out x5_1 p112 q112
                obtain rfl : ad111 = ad112 := (by injection e112)
                replace p112 := eq_true p112
                replace q112 := eq_true q112
                go_wp2
                repeat (go_quiet (fail); try go_wp2)
                go_ret
                exact ⟨by first | rfl | (simp; done) | (simp [*]; done), by repeat (first | exact Drawn0.refl _ | apply Drawn0.step)⟩
               ·rw [if_neg c15] at H
                have c15b0 : (((rd_T48 l0 x6_3).f0).toList == ((rd_T48 l0 x5_1).f0).toList) = false := beq_eq_false_iff_ne.mpr c15
                have c15b1 : (((rd_T48 l0 x6_3).f0).toList != ((rd_T48 l0 x5_1).f0).toList) = true := bne_iff_ne.mpr c15
                have H' := Aside0.mk H
                clear H
                have p111 : 0 ≤ (x6_3 : Int) := of_decide_eq_true (by first | (with_reducible assumption) | assumption)
                have q111 : x6_3 < (l0.length : Int) := of_decide_eq_true (by first | (with_reducible assumption) | assumption)
                obtain ⟨ad111, e111, hx111_0, hx111_1, hx111_2⟩ := at_T48 HR0.out x6_3 p111 q111
                cases e111
                replace p111 := eq_true p111
                replace q111 := eq_true q111
                have p112 : 0 ≤ (x5_1 : Int) := of_decide_eq_true (by first | (with_reducible assumption) | assumption)
                have q112 : x5_1 < (l0.length : Int) := of_decide_eq_true (by first | (with_reducible assumption) | assumption)
                obtain ⟨ad112, e112, hx112_0, hx112_1, hx112_2⟩ := at_T48 HR0.out x5_1 p112 q112
                obtain rfl : ad111 = ad112 := (by injection e112)
                replace p112 := eq_true p112
                replace q112 := eq_true q112
                go_wp2
                repeat (go_quiet (fail); try go_wp2)
                go_roundg k3
                case measure => have := HK1.out; have := HJ4.out; have := HK3.out; omega
                case rel => exact ⟨(wrap64 (x6_3 + 1)), (by first | rfl | (simp; done) | (simp [*]; done)), H', ⟨by have := HK1.out; have := HJ4.out; have := HK3.out; omega⟩, by repeat (first | exact Drawn0.refl _ | apply Drawn0.step)⟩
              ·rw [if_neg c14] at H
               exact absurd H (by simp)
             ·rw [if_neg c13] at H
              exact absurd H (by simp)
            ·rw [if_neg c12] at H
             exact absurd H (by simp)
           ·rw [if_neg c11] at H
            exact absurd H (by simp)
          ·rw [if_neg c10] at H
           have c10b0 : decide (x6_3 < x5_1) = false := decide_eq_false c10
           clear c10
           have H' := Aside0.mk H
           clear H
           go_wp2
           repeat (go_quiet (fail); try go_wp2)
           go_roundg k3
           case measure => have := HK1.out; have := HJ4.out; have := HK3.out; omega
           case rel => exact ⟨(wrap64 (x5_1 + 1)), (by first | rfl | (simp; done) | (simp [*]; done)), H', ⟨by have := HK1.out; have := HJ4.out; have := HK3.out; omega⟩, by repeat (first | exact Drawn0.refl _ | apply Drawn0.step)⟩
    ·rw [if_neg c4] at H
     have c4b0 : decide (x5_1 < (l0.length : Int)) = false := decide_eq_false c4
     clear c4
     obtain rfl := Option.some.inj H
     go_wp2
     repeat (go_quiet (fail); try go_wp2)
     go_ret
     exact ⟨by first | rfl | (simp; done) | (simp [*]; done), by repeat (first | exact Drawn0.refl _ | apply Drawn0.step)⟩

end Go.Proofs.Ytkclfbmgnhmkhaa.PC
