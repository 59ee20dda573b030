/- Go functions as Lean functions, and that each Go function comes to just that; printed by a program of this session (gprint.py over the kit's print.py). No condition. -/
import Derived.Test.YtkclfbmgnhmkhaaPCx7
import Derived.Test.YtkclfbmgnhmkhaaPNx1
import Derived.Test.YtkclfbmgnhmkhaaPNx3
import Derived.Test.YtkclfbmgnhmkhaaGMro
import Derived.Test.YtkclfbmgnhmkhaaPCx2
import Derived.Test.YtkclfbmgnhmkhaaPMx1
namespace Go.Proofs.Ytkclfbmgnhmkhaa.PC
open Go.RowKit Go.Proofs.YtkclfbmgnhmkhaaW.PrintWords Go.Proofs.YtkclfbmgnhmkhaaW.PrintLast Go.Proofs.YtkclfbmgnhmkhaaW.PrintMore
attribute [local go_sem] max2_int min2_int max_two min_two max_three min_three max_four min_four   -- for this text's walks alone
set_option linter.unusedVariables false
set_option linter.unusedSimpArgs false

/-! ### laws_FnLines: function 4 -/
mutual
def laws_FnLines.l0 : Nat → List (S41) → List Bool → List (List Int) → Int → Int → Int → Option (Bool)
 | 0, _, _, _, _, _, _ => none
 | k + 1, x3, x4, x5, x6, x7, x8 => if x8 ≥ 0 then (if 0 ≤ x8 then (if x8 < (x4.length : Int) then (if rdOf false x4 x8 = true then (laws_FnLines.l0 k x3 x4 x5 x6 x7 (wrap64 (x8 - 1))) else (laws_FnLines.l0 k x3 x4 x5 x6 x8 (wrap64 (x8 - 1)))) else (none)) else (none)) else (if x6 = x7 then (if x7 ≥ 0 then ((spec_MroFits.f k x3).bind fun t225 => (laws_FnLines.l1 k x3 x4 x5 t225 0)) else (if (x5.length : Int) = (x3.length : Int) then (laws_FnLines.l2 k x3 x5 0) else (none))) else (none))
def laws_FnLines.l1 : Nat → List (S41) → List Bool → List (List Int) → List Bool → Int → Option (Bool)
 | 0, _, _, _, _, _ => none
 | k + 1, x3, x4, x5, x9, x10 => if x10 < (x3.length : Int) then (if 0 ≤ x10 then (if x10 < (x9.length : Int) then (if x10 < (x4.length : Int) then (if ((rdOf false x9 x10) != (rdOf false x4 x10)) = true then (none) else (laws_FnLines.l1 k x3 x4 x5 x9 (wrap64 (x10 + 1)))) else (none)) else (none)) else (none)) else (some ((x5.length : Int) == 0))
def laws_FnLines.l2 : Nat → List (S41) → List (List Int) → Int → Option (Bool)
 | 0, _, _, _ => none
 | k + 1, x3, x5, x11 => if x11 < (x3.length : Int) then (if 0 ≤ x11 then (if x11 < (x5.length : Int) then (if ((rd_L1 x5 x11).length : Int) = 0 then (laws_FnLines.j3 k x3 x5 x11 true) else (if 0 < ((rd_L1 x5 x11).length : Int) then (if (rd (rd_L1 x5 x11) 0) = x11 then ((laws_within.f k ((rd_T41 x3 x11).f0) (rd_L1 x5 x11)).bind fun t235 => (laws_FnLines.j3 k x3 x5 x11 (!t235))) else (laws_FnLines.j3 k x3 x5 x11 true)) else (none))) else (none)) else (none)) else (some true)
def laws_FnLines.j3 : Nat → List (S41) → List (List Int) → Int → Bool → Option (Bool)
 | 0, _, _, _, _ => none
 | k + 1, x3, x5, x11, x123 => if x123 = true then (none) else (laws_FnLines.l3 k x3 x5 x11 0)
def laws_FnLines.l3 : Nat → List (S41) → List (List Int) → Int → Int → Option (Bool)
 | 0, _, _, _, _ => none
 | k + 1, x3, x5, x11, x12 => if 0 ≤ x11 then (if x11 < (x5.length : Int) then (if x12 < ((rd_L1 x5 x11).length : Int) then (laws_FnLines.l4 k x3 x5 x11 x12 0) else (laws_FnLines.l5 k x3 x5 x11 0)) else (none)) else (none)
def laws_FnLines.l4 : Nat → List (S41) → List (List Int) → Int → Int → Int → Option (Bool)
 | 0, _, _, _, _, _ => none
 | k + 1, x3, x5, x11, x12, x13 => if x13 < x12 then (if 0 ≤ x11 then (if x11 < (x5.length : Int) then (if 0 ≤ x13 then (if x13 < ((rd_L1 x5 x11).length : Int) then (if 0 ≤ x12 then (if x12 < ((rd_L1 x5 x11).length : Int) then (if (rd (rd_L1 x5 x11) x13) = (rd (rd_L1 x5 x11) x12) then (none) else (laws_FnLines.l4 k x3 x5 x11 x12 (wrap64 (x13 + 1)))) else (none)) else (none)) else (none)) else (none)) else (none)) else (none)) else (laws_FnLines.l3 k x3 x5 x11 (wrap64 (x12 + 1)))
def laws_FnLines.l5 : Nat → List (S41) → List (List Int) → Int → Int → Option (Bool)
 | 0, _, _, _, _ => none
 | k + 1, x3, x5, x11, x14 => if 0 ≤ x11 then (if x11 < (x3.length : Int) then (if x14 < (((rd_T41 x3 x11).f0).length : Int) then (if 0 ≤ x14 then (if 0 ≤ (rd ((rd_T41 x3 x11).f0) x14) then (if (rd ((rd_T41 x3 x11).f0) x14) < (x5.length : Int) then (if x11 < (x5.length : Int) then ((laws_within.f k (rd_L1 x5 (rd ((rd_T41 x3 x11).f0) x14)) (rd_L1 x5 x11)).bind fun t246 => (if t246 = true then (laws_FnLines.l5 k x3 x5 x11 (wrap64 (x14 + 1))) else (none))) else (none)) else (none)) else (none)) else (none)) else (laws_FnLines.l2 k x3 x5 (wrap64 (x11 + 1)))) else (none)) else (none)
end
def laws_FnLines.f (k : Nat) (l0 : List Int) : Option (Bool) := (laws_big.f l0).bind fun t212 => (if t212 = true then (some true) else ((spec_DrawMro.f k l0).bind fun t213 => ((impl_MroFits.f t213).bind fun t216 => ((impl_Mro.f t213).bind fun bt219 => ((spec_ClassesOk.f k t213).bind fun t223 => (if t223 = true then (if (t216.length : Int) = (t213.length : Int) then (laws_FnLines.l0 k t213 t216 bt219.1 bt219.2 (-1) (wrap64 ((t213.length : Int) - 1))) else (none)) else (if bt219.2 = (-2) then (if (bt219.1.length : Int) = 0 then (some ((t216.length : Int) == 0)) else (none)) else (none))))))))
set_option maxHeartbeats 8000000 in
set_option maxRecDepth 100000 in
theorem laws_FnLines.calls (k : Nat) (A0 : Option Addr) (c0 : Nat) (l0 : List Int) (r : Bool) (w : World) (hr0 : Kd.C (Kd.int .u8) w A0 l0.length l0) (hc0 : l0.length ≤ c0) (h : laws_FnLines.f k l0 = some r) :
  Calls Try.prog 4 #[.slice A0 l0.length c0] w fun e w' => e = .returned (.bool r) ∧ Below w.heap.size w w' := by
 have HR0 := Aside0.mk hr0
 have HC0 := Aside0.mk hc0
 clear hr0 hc0
 have HB := Aside0.mk (Below.refl w.heap.size w)
 have H : ((laws_big.f l0).bind fun t212 => (if t212 = true then (some true) else ((spec_DrawMro.f k l0).bind fun t213 => ((impl_MroFits.f t213).bind fun t216 => ((impl_Mro.f t213).bind fun bt219 => ((spec_ClassesOk.f k t213).bind fun t223 => (if t223 = true then (if (t216.length : Int) = (t213.length : Int) then (laws_FnLines.l0 k t213 t216 bt219.1 bt219.2 (-1) (wrap64 ((t213.length : Int) - 1))) else (none)) else (if bt219.2 = (-2) then (if (bt219.1.length : Int) = 0 then (some ((t216.length : Int) == 0)) else (none)) else (none))))))))) = some r := h
 clear h
 replace H := Option.bind_eq_some_iff.mp H
 obtain ⟨t212, A20, H⟩ := H
 replace H : (if t212 = true then (some true) else ((spec_DrawMro.f k l0).bind fun t213 => ((impl_MroFits.f t213).bind fun t216 => ((impl_Mro.f t213).bind fun bt219 => ((spec_ClassesOk.f k t213).bind fun t223 => (if t223 = true then (if (t216.length : Int) = (t213.length : Int) then (laws_FnLines.l0 k t213 t216 bt219.1 bt219.2 (-1) (wrap64 ((t213.length : Int) - 1))) else (none)) else (if bt219.2 = (-2) then (if (bt219.1.length : Int) = 0 then (some ((t216.length : Int) == 0)) else (none)) else (none)))))))) = some r := H
 have A2 := Aside0.mk A20
 clear A20
 by_cases c3 : t212 = true
 ·subst c3
  have H1 : (some true) = some r := by rw [if_pos rfl] at H; exact H
  clear H
  have H := H1
  clear H1
  obtain rfl := Option.some.inj H
  go_enter Try.func4, Try.ntmps4
  go_wp2_with (first | (go_at_call 15; (with_reducible refine (laws_big.calls _ _ l0 true _ ?side1 ?side2 A2.out).mono ?_); (case side1 => repeat (first | exact HR0.out | (with_reducible refine Kd.C_alloc ?_ _) | (with_reducible refine Kd.C_drewN ?_ _) | (with_reducible refine Kd.C_drew ?_))); (case side2 => exact HC0.out); rintro e w' ⟨rfl, ⟨nd, rfl⟩⟩; (try first | exact ⟨rfl, _, World.drewN_drewN _ _ _⟩ | exact ⟨rfl, _, Eq.trans (World.drewN_drewN _ _ _) (congrArg (World.drewN _) (Nat.add_assoc _ _ _))⟩)))
  repeat (go_quiet (first | (go_at_call 15; (with_reducible refine (laws_big.calls _ _ l0 true _ ?side1 ?side2 A2.out).mono ?_); (case side1 => repeat (first | exact HR0.out | (with_reducible refine Kd.C_alloc ?_ _) | (with_reducible refine Kd.C_drewN ?_ _) | (with_reducible refine Kd.C_drew ?_))); (case side2 => exact HC0.out); rintro e w' ⟨rfl, ⟨nd, rfl⟩⟩; (try first | exact ⟨rfl, _, World.drewN_drewN _ _ _⟩ | exact ⟨rfl, _, Eq.trans (World.drewN_drewN _ _ _) (congrArg (World.drewN _) (Nat.add_assoc _ _ _))⟩))); try go_wp2_with (first | (go_at_call 15; (with_reducible refine (laws_big.calls _ _ l0 true _ ?side1 ?side2 A2.out).mono ?_); (case side1 => repeat (first | exact HR0.out | (with_reducible refine Kd.C_alloc ?_ _) | (with_reducible refine Kd.C_drewN ?_ _) | (with_reducible refine Kd.C_drew ?_))); (case side2 => exact HC0.out); rintro e w' ⟨rfl, ⟨nd, rfl⟩⟩; (try first | exact ⟨rfl, _, World.drewN_drewN _ _ _⟩ | exact ⟨rfl, _, Eq.trans (World.drewN_drewN _ _ _) (congrArg (World.drewN _) (Nat.add_assoc _ _ _))⟩))))
  go_ret
  exact ⟨by first | rfl | (simp [errW_none, errW_some] <;> rfl) | (simp [*, errW_none, errW_some] <;> rfl), by repeat (first | (with_reducible first | exact HB.out | apply below_alloc | apply pw_below_drewN | apply below_drew1) | exact HB.out)⟩
 ·replace c3 := Bool.eq_false_iff.mpr c3
  subst c3
  have H1 : ((spec_DrawMro.f k l0).bind fun t213 => ((impl_MroFits.f t213).bind fun t216 => ((impl_Mro.f t213).bind fun bt219 => ((spec_ClassesOk.f k t213).bind fun t223 => (if t223 = true then (if (t216.length : Int) = (t213.length : Int) then (laws_FnLines.l0 k t213 t216 bt219.1 bt219.2 (-1) (wrap64 ((t213.length : Int) - 1))) else (none)) else (if bt219.2 = (-2) then (if (bt219.1.length : Int) = 0 then (some ((t216.length : Int) == 0)) else (none)) else (none))))))) = some r := by rw [if_neg (show ¬ (false = true) by decide)] at H; exact H
  clear H
  have H := H1
  clear H1
  replace H := Option.bind_eq_some_iff.mp H
  obtain ⟨t213, A40, H⟩ := H
  replace H : ((impl_MroFits.f t213).bind fun t216 => ((impl_Mro.f t213).bind fun bt219 => ((spec_ClassesOk.f k t213).bind fun t223 => (if t223 = true then (if (t216.length : Int) = (t213.length : Int) then (laws_FnLines.l0 k t213 t216 bt219.1 bt219.2 (-1) (wrap64 ((t213.length : Int) - 1))) else (none)) else (if bt219.2 = (-2) then (if (bt219.1.length : Int) = 0 then (some ((t216.length : Int) == 0)) else (none)) else (none)))))) = some r := H
  have A4 := Aside0.mk A40
  clear A40
  replace H := Option.bind_eq_some_iff.mp H
  obtain ⟨t216, A50, H⟩ := H
  replace H : ((impl_Mro.f t213).bind fun bt219 => ((spec_ClassesOk.f k t213).bind fun t223 => (if t223 = true then (if (t216.length : Int) = (t213.length : Int) then (laws_FnLines.l0 k t213 t216 bt219.1 bt219.2 (-1) (wrap64 ((t213.length : Int) - 1))) else (none)) else (if bt219.2 = (-2) then (if (bt219.1.length : Int) = 0 then (some ((t216.length : Int) == 0)) else (none)) else (none))))) = some r := H
  have A5 := Aside0.mk A50
  clear A50
  replace H := Option.bind_eq_some_iff.mp H
  obtain ⟨⟨t219, t220⟩, A60, H⟩ := H
  replace H : ((spec_ClassesOk.f k t213).bind fun t223 => (if t223 = true then (if (t216.length : Int) = (t213.length : Int) then (laws_FnLines.l0 k t213 t216 t219 t220 (-1) (wrap64 ((t213.length : Int) - 1))) else (none)) else (if t220 = (-2) then (if (t219.length : Int) = 0 then (some ((t216.length : Int) == 0)) else (none)) else (none)))) = some r := H
  have A6 := Aside0.mk A60
  clear A60
  replace H := Option.bind_eq_some_iff.mp H
  obtain ⟨t223, A70, H⟩ := H
  replace H : (if t223 = true then (if (t216.length : Int) = (t213.length : Int) then (laws_FnLines.l0 k t213 t216 t219 t220 (-1) (wrap64 ((t213.length : Int) - 1))) else (none)) else (if t220 = (-2) then (if (t219.length : Int) = 0 then (some ((t216.length : Int) == 0)) else (none)) else (none))) = some r := H
  have A7 := Aside0.mk A70
  clear A70
  by_cases c8 : t223 = true
  ·subst c8
   have H1 : (if (t216.length : Int) = (t213.length : Int) then (laws_FnLines.l0 k t213 t216 t219 t220 (-1) (wrap64 ((t213.length : Int) - 1))) else (none)) = some r := by rw [if_pos rfl] at H; exact H
   clear H
   have H := H1
   clear H1
   by_cases c9 : (t216.length : Int) = (t213.length : Int)
   ·rw [if_pos c9] at H
    have c9b0 : ((t216.length : Int) == (t213.length : Int)) = true := beq_iff_eq.mpr c9
    have c9b1 : ((t216.length : Int) != (t213.length : Int)) = false := bne_eq_false_iff_eq.mpr c9
    have c9b2 : (t216.length == t213.length) = true := by first | simpa using c9 | (simp at c9 ⊢; omega)
    clear c9
    have H' := Aside0.mk H
    clear H
    go_enter Try.func4, Try.ntmps4
    go_wp2_with (first | (go_at_call 15; (with_reducible refine (laws_big.calls _ _ l0 false _ ?side1 ?side2 A2.out).mono ?_); (case side1 => repeat (first | exact HR0.out | (with_reducible refine Kd.C_alloc ?_ _) | (with_reducible refine Kd.C_drewN ?_ _) | (with_reducible refine Kd.C_drew ?_))); (case side2 => exact HC0.out); rintro e w' ⟨rfl, ⟨nd, rfl⟩⟩; (try first | exact ⟨rfl, _, World.drewN_drewN _ _ _⟩ | exact ⟨rfl, _, Eq.trans (World.drewN_drewN _ _ _) (congrArg (World.drewN _) (Nat.add_assoc _ _ _))⟩)) | (go_at_call 16; (with_reducible refine (spec_DrawMro.calls k _ _ l0 t213 _ ?side1 ?side2 A4.out).mono ?_); (case side1 => repeat (first | exact HR0.out | (with_reducible refine Kd.C_alloc ?_ _) | (with_reducible refine Kd.C_drewN ?_ _) | (with_reducible refine Kd.C_drew ?_))); (case side2 => exact HC0.out); rintro e w10 ⟨v214, rfl, ho0, hb⟩; have n0_ := Aside0.mk (Kd.S_lower ho0 (below_size (by repeat (first | (with_reducible first | exact HB.out | apply below_alloc | apply pw_below_drewN | apply below_drew1) | exact HB.out)))); have n1_ := Aside0.mk (below_step (by repeat (first | (with_reducible first | exact HB.out | apply below_alloc | apply pw_below_drewN | apply below_drew1) | exact HB.out)) hb); clear HB; have HO215 := n0_; have HB := n1_; clear n0_ n1_; (try clear hb); (try clear hb2); (try clear hk); (try clear hi); (try clear ho0); obtain ⟨Ao11, co11, eo11⟩ := Kd.S_slice HO215.out; subst eo11) | (go_at_call 17; (with_reducible refine (impl_MroFits.calls _ _ t213 t216 _ ?side1 ?side2 A5.out).mono ?_); (case side1 => repeat (first | exact (Kd.S_reads' HO215.out).2.2 | (with_reducible refine Kd.C_alloc ?_ _) | (with_reducible refine Kd.C_drewN ?_ _) | (with_reducible refine Kd.C_drew ?_))); (case side2 => exact (Kd.S_reads' HO215.out).2.1); rintro e w12 ⟨v217, rfl, ho0, hb⟩; have n0_ := Aside0.mk (Kd.S_below (by (with_reducible repeat (first | apply Kd.S_alloc | apply Kd.S_drewN | apply Kd.S_drew)); exact HO215.out) hb); have n1_ := Aside0.mk (Kd.R_lower ho0 (below_size (by repeat (first | (with_reducible first | exact HB.out | apply below_alloc | apply pw_below_drewN | apply below_drew1) | exact HB.out)))); have n2_ := Aside0.mk (below_step (by repeat (first | (with_reducible first | exact HB.out | apply below_alloc | apply pw_below_drewN | apply below_drew1) | exact HB.out)) hb); clear HO215; clear HB; have HO215 := n0_; have HO218 := n1_; have HB := n2_; clear n0_ n1_ n2_; (try clear hb); (try clear hb2); (try clear hk); (try clear hi); (try clear ho0)) | (go_at_call 18; (with_reducible refine (impl_Mro.calls _ _ t213 t219 t220 _ ?side1 ?side2 A6.out).mono ?_); (case side1 => repeat (first | exact (Kd.S_reads' HO215.out).2.2 | (with_reducible refine Kd.C_alloc ?_ _) | (with_reducible refine Kd.C_drewN ?_ _) | (with_reducible refine Kd.C_drew ?_))); (case side2 => exact (Kd.S_reads' HO215.out).2.1); rintro e w13 ⟨v221, rfl, ho0, hb⟩; have n0_ := Aside0.mk (Kd.S_below (by (with_reducible repeat (first | apply Kd.S_alloc | apply Kd.S_drewN | apply Kd.S_drew)); exact HO215.out) hb); have n1_ := Aside0.mk (Kd.R_below (by (with_reducible repeat (first | apply Kd.R_alloc | apply Kd.R_drewN | apply Kd.R_drew)); exact HO218.out) hb); have n2_ := Aside0.mk (Kd.S_lower ho0 (below_size (by repeat (first | (with_reducible first | exact HB.out | apply below_alloc | apply pw_below_drewN | apply below_drew1) | exact HB.out)))); have n3_ := Aside0.mk (below_step (by repeat (first | (with_reducible first | exact HB.out | apply below_alloc | apply pw_below_drewN | apply below_drew1) | exact HB.out)) hb); clear HO215; clear HO218; clear HB; have HO215 := n0_; have HO218 := n1_; have HO222 := n2_; have HB := n3_; clear n0_ n1_ n2_ n3_; (try clear hb); (try clear hb2); (try clear hk); (try clear hi); (try clear ho0)) | (go_at_call 11; (with_reducible refine (spec_ClassesOk.calls k _ _ t213 true _ ?side1 ?side2 A7.out).mono ?_); (case side1 => repeat (first | exact (Kd.S_reads' HO215.out).2.2 | (with_reducible refine Kd.C_alloc ?_ _) | (with_reducible refine Kd.C_drewN ?_ _) | (with_reducible refine Kd.C_drew ?_))); (case side2 => exact (Kd.S_reads' HO215.out).2.1); rintro e w' ⟨rfl, ⟨nd, rfl⟩⟩; (try first | exact ⟨rfl, _, World.drewN_drewN _ _ _⟩ | exact ⟨rfl, _, Eq.trans (World.drewN_drewN _ _ _) (congrArg (World.drewN _) (Nat.add_assoc _ _ _))⟩); obtain ⟨Ao14, co14, eo14⟩ := Kd.R_slice HO218.out; subst eo14))
    repeat (go_quiet (first | (go_at_call 15; (with_reducible refine (laws_big.calls _ _ l0 false _ ?side1 ?side2 A2.out).mono ?_); (case side1 => repeat (first | exact HR0.out | (with_reducible refine Kd.C_alloc ?_ _) | (with_reducible refine Kd.C_drewN ?_ _) | (with_reducible refine Kd.C_drew ?_))); (case side2 => exact HC0.out); rintro e w' ⟨rfl, ⟨nd, rfl⟩⟩; (try first | exact ⟨rfl, _, World.drewN_drewN _ _ _⟩ | exact ⟨rfl, _, Eq.trans (World.drewN_drewN _ _ _) (congrArg (World.drewN _) (Nat.add_assoc _ _ _))⟩)) | (go_at_call 16; (with_reducible refine (spec_DrawMro.calls k _ _ l0 t213 _ ?side1 ?side2 A4.out).mono ?_); (case side1 => repeat (first | exact HR0.out | (with_reducible refine Kd.C_alloc ?_ _) | (with_reducible refine Kd.C_drewN ?_ _) | (with_reducible refine Kd.C_drew ?_))); (case side2 => exact HC0.out); rintro e w10 ⟨v214, rfl, ho0, hb⟩; have n0_ := Aside0.mk (Kd.S_lower ho0 (below_size (by repeat (first | (with_reducible first | exact HB.out | apply below_alloc | apply pw_below_drewN | apply below_drew1) | exact HB.out)))); have n1_ := Aside0.mk (below_step (by repeat (first | (with_reducible first | exact HB.out | apply below_alloc | apply pw_below_drewN | apply below_drew1) | exact HB.out)) hb); clear HB; have HO215 := n0_; have HB := n1_; clear n0_ n1_; (try clear hb); (try clear hb2); (try clear hk); (try clear hi); (try clear ho0); obtain ⟨Ao11, co11, eo11⟩ := Kd.S_slice HO215.out; subst eo11) | (go_at_call 17; (with_reducible refine (impl_MroFits.calls _ _ t213 t216 _ ?side1 ?side2 A5.out).mono ?_); (case side1 => repeat (first | exact (Kd.S_reads' HO215.out).2.2 | (with_reducible refine Kd.C_alloc ?_ _) | (with_reducible refine Kd.C_drewN ?_ _) | (with_reducible refine Kd.C_drew ?_))); (case side2 => exact (Kd.S_reads' HO215.out).2.1); rintro e w12 ⟨v217, rfl, ho0, hb⟩; have n0_ := Aside0.mk (Kd.S_below (by (with_reducible repeat (first | apply Kd.S_alloc | apply Kd.S_drewN | apply Kd.S_drew)); exact HO215.out) hb); have n1_ := Aside0.mk (Kd.R_lower ho0 (below_size (by repeat (first | (with_reducible first | exact HB.out | apply below_alloc | apply pw_below_drewN | apply below_drew1) | exact HB.out)))); have n2_ := Aside0.mk (below_step (by repeat (first | (with_reducible first | exact HB.out | apply below_alloc | apply pw_below_drewN | apply below_drew1) | exact HB.out)) hb); clear HO215; clear HB; have HO215 := n0_; have HO218 := n1_; have HB := n2_; clear n0_ n1_ n2_; (try clear hb); (try clear hb2); (try clear hk); (try clear hi); (try clear ho0)) | (go_at_call 18; (with_reducible refine (impl_Mro.calls _ _ t213 t219 t220 _ ?side1 ?side2 A6.out).mono ?_); (case side1 => repeat (first | exact (Kd.S_reads' HO215.out).2.2 | (with_reducible refine Kd.C_alloc ?_ _) | (with_reducible refine Kd.C_drewN ?_ _) | (with_reducible refine Kd.C_drew ?_))); (case side2 => exact (Kd.S_reads' HO215.out).2.1); rintro e w13 ⟨v221, rfl, ho0, hb⟩; have n0_ := Aside0.mk (Kd.S_below (by (with_reducible repeat (first | apply Kd.S_alloc | apply Kd.S_drewN | apply Kd.S_drew)); exact HO215.out) hb); have n1_ := Aside0.mk (Kd.R_below (by (with_reducible repeat (first | apply Kd.R_alloc | apply Kd.R_drewN | apply Kd.R_drew)); exact HO218.out) hb); have n2_ := Aside0.mk (Kd.S_lower ho0 (below_size (by repeat (first | (with_reducible first | exact HB.out | apply below_alloc | apply pw_below_drewN | apply below_drew1) | exact HB.out)))); have n3_ := Aside0.mk (below_step (by repeat (first | (with_reducible first | exact HB.out | apply below_alloc | apply pw_below_drewN | apply below_drew1) | exact HB.out)) hb); clear HO215; clear HO218; clear HB; have HO215 := n0_; have HO218 := n1_; have HO222 := n2_; have HB := n3_; clear n0_ n1_ n2_ n3_; (try clear hb); (try clear hb2); (try clear hk); (try clear hi); (try clear ho0)) | (go_at_call 11; (with_reducible refine (spec_ClassesOk.calls k _ _ t213 true _ ?side1 ?side2 A7.out).mono ?_); (case side1 => repeat (first | exact (Kd.S_reads' HO215.out).2.2 | (with_reducible refine Kd.C_alloc ?_ _) | (with_reducible refine Kd.C_drewN ?_ _) | (with_reducible refine Kd.C_drew ?_))); (case side2 => exact (Kd.S_reads' HO215.out).2.1); rintro e w' ⟨rfl, ⟨nd, rfl⟩⟩; (try first | exact ⟨rfl, _, World.drewN_drewN _ _ _⟩ | exact ⟨rfl, _, Eq.trans (World.drewN_drewN _ _ _) (congrArg (World.drewN _) (Nat.add_assoc _ _ _))⟩); obtain ⟨Ao14, co14, eo14⟩ := Kd.R_slice HO218.out; subst eo14)); try go_wp2_with (first | (go_at_call 15; (with_reducible refine (laws_big.calls _ _ l0 false _ ?side1 ?side2 A2.out).mono ?_); (case side1 => repeat (first | exact HR0.out | (with_reducible refine Kd.C_alloc ?_ _) | (with_reducible refine Kd.C_drewN ?_ _) | (with_reducible refine Kd.C_drew ?_))); (case side2 => exact HC0.out); rintro e w' ⟨rfl, ⟨nd, rfl⟩⟩; (try first | exact ⟨rfl, _, World.drewN_drewN _ _ _⟩ | exact ⟨rfl, _, Eq.trans (World.drewN_drewN _ _ _) (congrArg (World.drewN _) (Nat.add_assoc _ _ _))⟩)) | (go_at_call 16; (with_reducible refine (spec_DrawMro.calls k _ _ l0 t213 _ ?side1 ?side2 A4.out).mono ?_); (case side1 => repeat (first | exact HR0.out | (with_reducible refine Kd.C_alloc ?_ _) | (with_reducible refine Kd.C_drewN ?_ _) | (with_reducible refine Kd.C_drew ?_))); (case side2 => exact HC0.out); rintro e w10 ⟨v214, rfl, ho0, hb⟩; have n0_ := Aside0.mk (Kd.S_lower ho0 (below_size (by repeat (first | (with_reducible first | exact HB.out | apply below_alloc | apply pw_below_drewN | apply below_drew1) | exact HB.out)))); have n1_ := Aside0.mk (below_step (by repeat (first | (with_reducible first | exact HB.out | apply below_alloc | apply pw_below_drewN | apply below_drew1) | exact HB.out)) hb); clear HB; have HO215 := n0_; have HB := n1_; clear n0_ n1_; (try clear hb); (try clear hb2); (try clear hk); (try clear hi); (try clear ho0); obtain ⟨Ao11, co11, eo11⟩ := Kd.S_slice HO215.out; subst eo11) | (go_at_call 17; (with_reducible refine (impl_MroFits.calls _ _ t213 t216 _ ?side1 ?side2 A5.out).mono ?_); (case side1 => repeat (first | exact (Kd.S_reads' HO215.out).2.2 | (with_reducible refine Kd.C_alloc ?_ _) | (with_reducible refine Kd.C_drewN ?_ _) | (with_reducible refine Kd.C_drew ?_))); (case side2 => exact (Kd.S_reads' HO215.out).2.1); rintro e w12 ⟨v217, rfl, ho0, hb⟩; have n0_ := Aside0.mk (Kd.S_below (by (with_reducible repeat (first | apply Kd.S_alloc | apply Kd.S_drewN | apply Kd.S_drew)); exact HO215.out) hb); have n1_ := Aside0.mk (Kd.R_lower ho0 (below_size (by repeat (first | (with_reducible first | exact HB.out | apply below_alloc | apply pw_below_drewN | apply below_drew1) | exact HB.out)))); have n2_ := Aside0.mk (below_step (by repeat (first | (with_reducible first | exact HB.out | apply below_alloc | apply pw_below_drewN | apply below_drew1) | exact HB.out)) hb); clear HO215; clear HB; have HO215 := n0_; have HO218 := n1_; have HB := n2_; clear n0_ n1_ n2_; (try clear hb); (try clear hb2); (try clear hk); (try clear hi); (try clear ho0)) | (go_at_call 18; (with_reducible refine (impl_Mro.calls _ _ t213 t219 t220 _ ?side1 ?side2 A6.out).mono ?_); (case side1 => repeat (first | exact (Kd.S_reads' HO215.out).2.2 | (with_reducible refine Kd.C_alloc ?_ _) | (with_reducible refine Kd.C_drewN ?_ _) | (with_reducible refine Kd.C_drew ?_))); (case side2 => exact (Kd.S_reads' HO215.out).2.1); rintro e w13 ⟨v221, rfl, ho0, hb⟩; have n0_ := Aside0.mk (Kd.S_below (by (with_reducible repeat (first | apply Kd.S_alloc | apply Kd.S_drewN | apply Kd.S_drew)); exact HO215.out) hb); have n1_ := Aside0.mk (Kd.R_below (by (with_reducible repeat (first | apply Kd.R_alloc | apply Kd.R_drewN | apply Kd.R_drew)); exact HO218.out) hb); have n2_ := Aside0.mk (Kd.S_lower ho0 (below_size (by repeat (first | (with_reducible first | exact HB.out | apply below_alloc | apply pw_below_drewN | apply below_drew1) | exact HB.out)))); have n3_ := Aside0.mk (below_step (by repeat (first | (with_reducible first | exact HB.out | apply below_alloc | apply pw_below_drewN | apply below_drew1) | exact HB.out)) hb); clear HO215; clear HO218; clear HB; have HO215 := n0_; have HO218 := n1_; have HO222 := n2_; have HB := n3_; clear n0_ n1_ n2_ n3_; (try clear hb); (try clear hb2); (try clear hk); (try clear hi); (try clear ho0)) | (go_at_call 11; (with_reducible refine (spec_ClassesOk.calls k _ _ t213 true _ ?side1 ?side2 A7.out).mono ?_); (case side1 => repeat (first | exact (Kd.S_reads' HO215.out).2.2 | (with_reducible refine Kd.C_alloc ?_ _) | (with_reducible refine Kd.C_drewN ?_ _) | (with_reducible refine Kd.C_drew ?_))); (case side2 => exact (Kd.S_reads' HO215.out).2.1); rintro e w' ⟨rfl, ⟨nd, rfl⟩⟩; (try first | exact ⟨rfl, _, World.drewN_drewN _ _ _⟩ | exact ⟨rfl, _, Eq.trans (World.drewN_drewN _ _ _) (congrArg (World.drewN _) (Nat.add_assoc _ _ _))⟩); obtain ⟨Ao14, co14, eo14⟩ := Kd.R_slice HO218.out; subst eo14)))
    go_loopg [7, 8] k (fun kq v7 v8 w' => ∃ (x7_1 : Int) (x8_1 : Int), v7 = .int .i64 x7_1 ∧ v8 = .int .i64 x8_1 ∧ Aside0 (laws_FnLines.l0 kq t213 t216 t219 t220 x7_1 x8_1 = some r) ∧ Aside0 (kq ≤ k) ∧ Aside0 (Kd.S k41 41 w' w.heap.size (fun _ => True) (.slice Ao11 t213.length co11) t213) ∧ Aside0 (Kd.R Kd.bool 4 w' w.heap.size (fun _ => True) (.slice Ao14 t216.length co14) t216) ∧ Aside0 (Kd.S (Kd.slice 2 (Kd.int .i64)) 37 w' w.heap.size (fun _ => True) v221 t219) ∧ Aside0 (Below w.heap.size w w'))
    case atStart => exact ⟨((-1)), (wrap64 ((t213.length : Int) - 1)), (by first | rfl | (simp; done) | (simp [*]; done)), (by first | rfl | (simp; done) | (simp [*]; done)), H', ⟨Nat.le_refl _⟩, ⟨by (with_reducible repeat (first | apply Kd.S_alloc | apply Kd.S_drewN | apply Kd.S_drew)); exact HO215.out⟩, ⟨by (with_reducible repeat (first | apply Kd.R_alloc | apply Kd.R_drewN | apply Kd.R_drew)); exact HO218.out⟩, ⟨by (with_reducible repeat (first | apply Kd.S_alloc | apply Kd.S_drewN | apply Kd.S_drew)); exact HO222.out⟩, ⟨by repeat (first | (with_reducible first | exact HB.out | apply below_alloc | apply pw_below_drewN | apply below_drew1) | exact HB.out)⟩⟩
    case round =>
     clear H'
     try clear p2
     try clear c3
     try clear c4
     try clear p6
     try clear c8
     try clear c9
     try clear c9b0
     try clear c9b1
     try clear c9b2
     obtain ⟨x7_1, x8_1, rfl, rfl, HA, HK1, HO_3, HO_4, HO_5, HB⟩ := hrel
     cases gk with
     | zero => exact absurd HA.out (by simp [laws_FnLines.l0])
     | succ k1 =>
      have H := HA.out
      clear HA
      simp only [laws_FnLines.l0] at H
      by_cases c15 : x8_1 ≥ 0
      ·rw [if_pos c15] at H
       have c15b0 : decide (0 ≤ x8_1) = true := decide_eq_true c15
       clear c15
       by_cases c16 : 0 ≤ x8_1
       ·rw [if_pos c16] at H
        have c16b0 : decide (0 ≤ x8_1) = true := decide_eq_true c16
        clear c16
        by_cases c17 : x8_1 < (t216.length : Int)
        ·rw [if_pos c17] at H
         have c17b0 : decide (x8_1 < (t216.length : Int)) = true := decide_eq_true c17
         clear c17
         obtain ⟨bq18, hbq18⟩ : ∃ b_ : Bool, b_ = (rdOf false t216 x8_1) := ⟨_, rfl⟩
         replace H : (if bq18 = true then (laws_FnLines.l0 k1 t213 t216 t219 t220 x7_1 (wrap64 (x8_1 - 1))) else (laws_FnLines.l0 k1 t213 t216 t219 t220 x8_1 (wrap64 (x8_1 - 1)))) = some r := by rw [← hbq18] at H; exact H
         have Nbq18 := Aside0.mk hbq18
         clear hbq18
         by_cases c19 : bq18 = true
         ·subst c19
          have H1 : (laws_FnLines.l0 k1 t213 t216 t219 t220 x7_1 (wrap64 (x8_1 - 1))) = some r := by rw [if_pos rfl] at H; exact H
          clear H
          have H := H1
          clear H1
          have H' := Aside0.mk H
          clear H
          have p224 : 0 ≤ (x8_1 : Int) := of_decide_eq_true (by first | (with_reducible assumption) | assumption)
          have q224 : x8_1 < (t216.length : Int) := of_decide_eq_true (by first | (with_reducible assumption) | assumption)
          obtain ⟨ad224, e224, hx224_0⟩ := Kd.at_bool (Kd.R_reads' HO_4.out).2.2 x8_1 p224 q224
          (try rw [← Nbq18.out] at hx224_0)
          (try rw [← Nbq18.out] at hw224_0)
          cases e224
          replace p224 := eq_true p224
          replace q224 := eq_true q224
          go_wp2
          repeat (go_quiet (fail); try go_wp2)
          go_roundg k1
          case measure => have := HK1.out; omega
          case rel => exact ⟨(x7_1), (wrap64 (x8_1 - 1)), (by first | rfl | (simp; done) | (simp [*]; done)), (by first | rfl | (simp; done) | (simp [*]; done)), H', ⟨by have := HK1.out; omega⟩, ⟨by (with_reducible repeat (first | apply Kd.S_alloc | apply Kd.S_drewN | apply Kd.S_drew)); exact HO_3.out⟩, ⟨by (with_reducible repeat (first | apply Kd.R_alloc | apply Kd.R_drewN | apply Kd.R_drew)); exact HO_4.out⟩, ⟨by (with_reducible repeat (first | apply Kd.S_alloc | apply Kd.S_drewN | apply Kd.S_drew)); exact HO_5.out⟩, ⟨by repeat (first | (with_reducible first | exact HB.out | apply below_alloc | apply pw_below_drewN | apply below_drew1) | exact HB.out)⟩⟩
         ·replace c19 := Bool.eq_false_iff.mpr c19
          subst c19
          have H1 : (laws_FnLines.l0 k1 t213 t216 t219 t220 x8_1 (wrap64 (x8_1 - 1))) = some r := by rw [if_neg (show ¬ (false = true) by decide)] at H; exact H
          clear H
          have H := H1
          clear H1
          have H' := Aside0.mk H
          clear H
          have p224 : 0 ≤ (x8_1 : Int) := of_decide_eq_true (by first | (with_reducible assumption) | assumption)
          have q224 : x8_1 < (t216.length : Int) := of_decide_eq_true (by first | (with_reducible assumption) | assumption)
          obtain ⟨ad224, e224, hx224_0⟩ := Kd.at_bool (Kd.R_reads' HO_4.out).2.2 x8_1 p224 q224
          (try rw [← Nbq18.out] at hx224_0)
          (try rw [← Nbq18.out] at hw224_0)
          cases e224
          replace p224 := eq_true p224
          replace q224 := eq_true q224
          go_wp2
          repeat (go_quiet (fail); try go_wp2)
          go_roundg k1
          case measure => have := HK1.out; omega
          case rel => exact ⟨(x8_1), (wrap64 (x8_1 - 1)), (by first | rfl | (simp; done) | (simp [*]; done)), (by first | rfl | (simp; done) | (simp [*]; done)), H', ⟨by have := HK1.out; omega⟩, ⟨by (with_reducible repeat (first | apply Kd.S_alloc | apply Kd.S_drewN | apply Kd.S_drew)); exact HO_3.out⟩, ⟨by (with_reducible repeat (first | apply Kd.R_alloc | apply Kd.R_drewN | apply Kd.R_drew)); exact HO_4.out⟩, ⟨by (with_reducible repeat (first | apply Kd.S_alloc | apply Kd.S_drewN | apply Kd.S_drew)); exact HO_5.out⟩, ⟨by repeat (first | (with_reducible first | exact HB.out | apply below_alloc | apply pw_below_drewN | apply below_drew1) | exact HB.out)⟩⟩
        ·rw [if_neg c17] at H
         exact absurd H (by simp)
       ·rw [if_neg c16] at H
        exact absurd H (by simp)
      ·rw [if_neg c15] at H
       have c15b0 : decide (0 ≤ x8_1) = false := decide_eq_false c15
       clear c15
       by_cases c20 : t220 = x7_1
       ·rw [if_pos c20] at H
        have c20b0 : (t220 == x7_1) = true := beq_iff_eq.mpr c20
        have c20b1 : (t220 != x7_1) = false := bne_eq_false_iff_eq.mpr c20
        clear c20
        by_cases c21 : x7_1 ≥ 0
        ·rw [if_pos c21] at H
         have c21b0 : decide (0 ≤ x7_1) = true := decide_eq_true c21
         clear c21
         replace H := Option.bind_eq_some_iff.mp H
         obtain ⟨t225, A220, H⟩ := H
         replace H : (laws_FnLines.l1 k1 t213 t216 t219 t225 0) = some r := H
         have A22 := Aside0.mk A220
         clear A220
         have H' := Aside0.mk H
         clear H
         go_wp2_with (first | (go_at_call 19; (with_reducible refine (spec_MroFits.calls k1 _ _ t213 t225 _ ?side1 ?side2 A22.out).mono ?_); (case side1 => repeat (first | exact (Kd.S_reads' HO_3.out).2.2 | (with_reducible refine Kd.C_alloc ?_ _) | (with_reducible refine Kd.C_drewN ?_ _) | (with_reducible refine Kd.C_drew ?_))); (case side2 => exact (Kd.S_reads' HO_3.out).2.1); rintro e w23 ⟨v226, rfl, ho0, hb⟩; have n0_ := Aside0.mk (Kd.S_below (by (with_reducible repeat (first | apply Kd.S_alloc | apply Kd.S_drewN | apply Kd.S_drew)); exact HO_3.out) hb); have n1_ := Aside0.mk (Kd.R_elder' (by (with_reducible repeat (first | apply Kd.R_alloc | apply Kd.R_drewN | apply Kd.R_drew)); exact HO_4.out) (Kd.R_base ho0) hb); have n2_ := Aside0.mk (Kd.S_below (by (with_reducible repeat (first | apply Kd.S_alloc | apply Kd.S_drewN | apply Kd.S_drew)); exact HO_5.out) hb); have n3_ := Aside0.mk (Kd.R_lower (Kd.R_new' ho0 (Kd.R_lt (by (with_reducible repeat (first | apply Kd.R_alloc | apply Kd.R_drewN | apply Kd.R_drew)); exact HO_4.out))) (below_size (by repeat (first | (with_reducible first | exact HB.out | apply below_alloc | apply pw_below_drewN | apply below_drew1) | exact HB.out)))); have n4_ := Aside0.mk (below_step (by repeat (first | (with_reducible first | exact HB.out | apply below_alloc | apply pw_below_drewN | apply below_drew1) | exact HB.out)) hb); clear HO_3; clear HO_4; clear HO_5; clear HB; have HO_3 := n0_; have HO_4 := n1_; have HO_5 := n2_; have HO227 := n3_; have HB := n4_; clear n0_ n1_ n2_ n3_ n4_; (try clear hb); (try clear hb2); (try clear hk); (try clear hi); (try clear ho0)))
         repeat (go_quiet (first | (go_at_call 19; (with_reducible refine (spec_MroFits.calls k1 _ _ t213 t225 _ ?side1 ?side2 A22.out).mono ?_); (case side1 => repeat (first | exact (Kd.S_reads' HO_3.out).2.2 | (with_reducible refine Kd.C_alloc ?_ _) | (with_reducible refine Kd.C_drewN ?_ _) | (with_reducible refine Kd.C_drew ?_))); (case side2 => exact (Kd.S_reads' HO_3.out).2.1); rintro e w23 ⟨v226, rfl, ho0, hb⟩; have n0_ := Aside0.mk (Kd.S_below (by (with_reducible repeat (first | apply Kd.S_alloc | apply Kd.S_drewN | apply Kd.S_drew)); exact HO_3.out) hb); have n1_ := Aside0.mk (Kd.R_elder' (by (with_reducible repeat (first | apply Kd.R_alloc | apply Kd.R_drewN | apply Kd.R_drew)); exact HO_4.out) (Kd.R_base ho0) hb); have n2_ := Aside0.mk (Kd.S_below (by (with_reducible repeat (first | apply Kd.S_alloc | apply Kd.S_drewN | apply Kd.S_drew)); exact HO_5.out) hb); have n3_ := Aside0.mk (Kd.R_lower (Kd.R_new' ho0 (Kd.R_lt (by (with_reducible repeat (first | apply Kd.R_alloc | apply Kd.R_drewN | apply Kd.R_drew)); exact HO_4.out))) (below_size (by repeat (first | (with_reducible first | exact HB.out | apply below_alloc | apply pw_below_drewN | apply below_drew1) | exact HB.out)))); have n4_ := Aside0.mk (below_step (by repeat (first | (with_reducible first | exact HB.out | apply below_alloc | apply pw_below_drewN | apply below_drew1) | exact HB.out)) hb); clear HO_3; clear HO_4; clear HO_5; clear HB; have HO_3 := n0_; have HO_4 := n1_; have HO_5 := n2_; have HO227 := n3_; have HB := n4_; clear n0_ n1_ n2_ n3_ n4_; (try clear hb); (try clear hb2); (try clear hk); (try clear hi); (try clear ho0))); try go_wp2_with (first | (go_at_call 19; (with_reducible refine (spec_MroFits.calls k1 _ _ t213 t225 _ ?side1 ?side2 A22.out).mono ?_); (case side1 => repeat (first | exact (Kd.S_reads' HO_3.out).2.2 | (with_reducible refine Kd.C_alloc ?_ _) | (with_reducible refine Kd.C_drewN ?_ _) | (with_reducible refine Kd.C_drew ?_))); (case side2 => exact (Kd.S_reads' HO_3.out).2.1); rintro e w23 ⟨v226, rfl, ho0, hb⟩; have n0_ := Aside0.mk (Kd.S_below (by (with_reducible repeat (first | apply Kd.S_alloc | apply Kd.S_drewN | apply Kd.S_drew)); exact HO_3.out) hb); have n1_ := Aside0.mk (Kd.R_elder' (by (with_reducible repeat (first | apply Kd.R_alloc | apply Kd.R_drewN | apply Kd.R_drew)); exact HO_4.out) (Kd.R_base ho0) hb); have n2_ := Aside0.mk (Kd.S_below (by (with_reducible repeat (first | apply Kd.S_alloc | apply Kd.S_drewN | apply Kd.S_drew)); exact HO_5.out) hb); have n3_ := Aside0.mk (Kd.R_lower (Kd.R_new' ho0 (Kd.R_lt (by (with_reducible repeat (first | apply Kd.R_alloc | apply Kd.R_drewN | apply Kd.R_drew)); exact HO_4.out))) (below_size (by repeat (first | (with_reducible first | exact HB.out | apply below_alloc | apply pw_below_drewN | apply below_drew1) | exact HB.out)))); have n4_ := Aside0.mk (below_step (by repeat (first | (with_reducible first | exact HB.out | apply below_alloc | apply pw_below_drewN | apply below_drew1) | exact HB.out)) hb); clear HO_3; clear HO_4; clear HO_5; clear HB; have HO_3 := n0_; have HO_4 := n1_; have HO_5 := n2_; have HO227 := n3_; have HB := n4_; clear n0_ n1_ n2_ n3_ n4_; (try clear hb); (try clear hb2); (try clear hk); (try clear hi); (try clear ho0))))
         go_loopg [10] k1 (fun kq v10 w' => ∃ (x10_2 : Int), v10 = .int .i64 x10_2 ∧ Aside0 (laws_FnLines.l1 kq t213 t216 t219 t225 x10_2 = some r) ∧ Aside0 (kq ≤ k1) ∧ Aside0 (Kd.S k41 41 w' w.heap.size (fun _ => True) (.slice Ao11 t213.length co11) t213) ∧ Aside0 (Kd.R Kd.bool 4 w' w.heap.size (fun k_ => some k_ ≠ (v226 : Value).ownBlock) (.slice Ao14 t216.length co14) t216) ∧ Aside0 (Kd.S (Kd.slice 2 (Kd.int .i64)) 37 w' w.heap.size (fun _ => True) v221 t219) ∧ Aside0 (Kd.R Kd.bool 4 w' w.heap.size (fun k_ => some k_ ≠ ((.slice Ao14 t216.length co14) : Value).ownBlock) v226 t225) ∧ Aside0 (Below w.heap.size w w'))
         case atStart => exact ⟨(0), (by first | rfl | (simp; done) | (simp [*]; done)), H', ⟨Nat.le_refl _⟩, ⟨by (with_reducible repeat (first | apply Kd.S_alloc | apply Kd.S_drewN | apply Kd.S_drew)); exact HO_3.out⟩, ⟨by (with_reducible repeat (first | apply Kd.R_alloc | apply Kd.R_drewN | apply Kd.R_drew)); exact Kd.R_mono HO_4.out (fun _ hk => hk.2)⟩, ⟨by (with_reducible repeat (first | apply Kd.S_alloc | apply Kd.S_drewN | apply Kd.S_drew)); exact HO_5.out⟩, ⟨by (with_reducible repeat (first | apply Kd.R_alloc | apply Kd.R_drewN | apply Kd.R_drew)); exact Kd.R_mono HO227.out (fun _ hk => hk.2)⟩, ⟨by repeat (first | (with_reducible first | exact HB.out | apply below_alloc | apply pw_below_drewN | apply below_drew1) | exact HB.out)⟩⟩
         case round =>
          clear H'
          try clear c1
          try clear q1
          try clear c2
          try clear p2
          try clear q2
          try clear hx2
          try clear c3
          try clear c4
          try clear p6
          try clear c8
          try clear c9
          try clear c9b0
          try clear c9b1
          try clear c9b2
          try clear c15
          try clear c15b0
          try clear c16
          try clear c16b0
          try clear c17
          try clear c17b0
          try clear q18
          try clear c19
          try clear c20
          try clear c20b0
          try clear c20b1
          try clear c21
          try clear c21b0
          try clear p22
          try clear q22
          try clear hx22
          try clear hx224_0
          try clear p2
          try clear p224
          try clear p6
          try clear q224
          obtain ⟨x10_2, rfl, HA, HK2, HO_3, HO_4, HO_5, HO_9, HB⟩ := hrel
          cases gk with
          | zero => exact absurd HA.out (by simp [laws_FnLines.l1])
          | succ k2 =>
           have H := HA.out
           clear HA
           simp only [laws_FnLines.l1] at H
           by_cases c24 : x10_2 < (t213.length : Int)
           ·rw [if_pos c24] at H
            have c24b0 : decide (x10_2 < (t213.length : Int)) = true := decide_eq_true c24
            clear c24
            by_cases c25 : 0 ≤ x10_2
            ·rw [if_pos c25] at H
             have c25b0 : decide (0 ≤ x10_2) = true := decide_eq_true c25
             clear c25
             by_cases c26 : x10_2 < (t225.length : Int)
             ·rw [if_pos c26] at H
              have c26b0 : decide (x10_2 < (t225.length : Int)) = true := decide_eq_true c26
              clear c26
              by_cases c27 : x10_2 < (t216.length : Int)
              ·rw [if_pos c27] at H
               have c27b0 : decide (x10_2 < (t216.length : Int)) = true := decide_eq_true c27
               clear c27
               by_cases c28 : ((rdOf false t225 x10_2) != (rdOf false t216 x10_2)) = true
               ·rw [if_pos c28] at H
                exact absurd H (by simp)
               ·rw [if_neg c28] at H
                have c28b0 : ((rdOf false t225 x10_2) != (rdOf false t216 x10_2)) = false := by simpa using c28
                (try (have c28b1 : decide ((rdOf false t225 x10_2) = (rdOf false t216 x10_2)) = true := by simpa using c28))
                (try (have c28b2 : ((rdOf false t225 x10_2) == (rdOf false t216 x10_2)) = true := by simpa using c28))
                clear c28
                have H' := Aside0.mk H
                clear H
                obtain ⟨Ao29, co29, eo29⟩ := Kd.R_slice HO_9.out
                subst eo29
                have p228 : 0 ≤ (x10_2 : Int) := of_decide_eq_true (by first | (with_reducible assumption) | assumption)
                have q228 : x10_2 < (t225.length : Int) := of_decide_eq_true (by first | (with_reducible assumption) | assumption)
                obtain ⟨ad228, e228, hx228_0⟩ := Kd.at_bool (Kd.R_reads' HO_9.out).2.2 x10_2 p228 q228
                cases e228
                replace p228 := eq_true p228
                replace q228 := eq_true q228
                have p229 : 0 ≤ (x10_2 : Int) := of_decide_eq_true (by first | (with_reducible assumption) | assumption)
                have q229 : x10_2 < (t216.length : Int) := of_decide_eq_true (by first | (with_reducible assumption) | assumption)
                obtain ⟨ad229, e229, hx229_0⟩ := Kd.at_bool (Kd.R_reads' HO_4.out).2.2 x10_2 p229 q229
                cases e229
                replace p229 := eq_true p229
                replace q229 := eq_true q229
                go_wp2
                repeat (go_quiet (fail); try go_wp2)
                go_roundg k2
                case measure => have := HK1.out; have := HK2.out; omega
                case rel => exact ⟨(wrap64 (x10_2 + 1)), (by first | rfl | (simp; done) | (simp [*]; done)), H', ⟨by have := HK1.out; have := HK2.out; omega⟩, ⟨by (with_reducible repeat (first | apply Kd.S_alloc | apply Kd.S_drewN | apply Kd.S_drew)); exact HO_3.out⟩, ⟨by (with_reducible repeat (first | apply Kd.R_alloc | apply Kd.R_drewN | apply Kd.R_drew)); exact HO_4.out⟩, ⟨by (with_reducible repeat (first | apply Kd.S_alloc | apply Kd.S_drewN | apply Kd.S_drew)); exact HO_5.out⟩, ⟨by (with_reducible repeat (first | apply Kd.R_alloc | apply Kd.R_drewN | apply Kd.R_drew)); exact HO_9.out⟩, ⟨by repeat (first | (with_reducible first | exact HB.out | apply below_alloc | apply pw_below_drewN | apply below_drew1) | exact HB.out)⟩⟩
              ·rw [if_neg c27] at H
               exact absurd H (by simp)
             ·rw [if_neg c26] at H
              exact absurd H (by simp)
            ·rw [if_neg c25] at H
             exact absurd H (by simp)
           ·rw [if_neg c24] at H
            have c24b0 : decide (x10_2 < (t213.length : Int)) = false := decide_eq_false c24
            clear c24
            obtain rfl := Option.some.inj H
            obtain ⟨Ao30, co30, eo30⟩ := Kd.S_slice HO_5.out
            subst eo30
            go_wp2
            repeat (go_quiet (fail); try go_wp2)
            go_ret
            exact ⟨by first | rfl | (simp [errW_none, errW_some] <;> rfl) | (simp [*, errW_none, errW_some] <;> rfl), by repeat (first | (with_reducible first | exact HB.out | apply below_alloc | apply pw_below_drewN | apply below_drew1) | exact HB.out)⟩
        ·rw [if_neg c21] at H
         have c21b0 : decide (0 ≤ x7_1) = false := decide_eq_false c21
         clear c21
         by_cases c31 : (t219.length : Int) = (t213.length : Int)
         ·rw [if_pos c31] at H
          have c31b0 : ((t219.length : Int) == (t213.length : Int)) = true := beq_iff_eq.mpr c31
          have c31b1 : ((t219.length : Int) != (t213.length : Int)) = false := bne_eq_false_iff_eq.mpr c31
          have c31b2 : (t219.length == t213.length) = true := by first | simpa using c31 | (simp at c31 ⊢; omega)
          clear c31
          have H' := Aside0.mk H
          clear H
          obtain ⟨Ao32, co32, eo32⟩ := Kd.S_slice HO_5.out
          subst eo32
          go_wp2
          repeat (go_quiet (fail); try go_wp2)
          go_loopg [11] k1 (fun kq v11 w' => ∃ (x11_2 : Int), v11 = .int .i64 x11_2 ∧ Aside0 (laws_FnLines.l2 kq t213 t219 x11_2 = some r) ∧ Aside0 (kq ≤ k1) ∧ Aside0 (Kd.S k41 41 w' w.heap.size (fun _ => True) (.slice Ao11 t213.length co11) t213) ∧ Aside0 (Kd.S (Kd.slice 2 (Kd.int .i64)) 37 w' w.heap.size (fun _ => True) (.slice Ao32 t219.length co32) t219) ∧ Aside0 (Below w.heap.size w w'))
          case atStart => exact ⟨(0), (by first | rfl | (simp; done) | (simp [*]; done)), H', ⟨Nat.le_refl _⟩, ⟨by (with_reducible repeat (first | apply Kd.S_alloc | apply Kd.S_drewN | apply Kd.S_drew)); exact HO_3.out⟩, ⟨by (with_reducible repeat (first | apply Kd.S_alloc | apply Kd.S_drewN | apply Kd.S_drew)); exact HO_5.out⟩, ⟨by repeat (first | (with_reducible first | exact HB.out | apply below_alloc | apply pw_below_drewN | apply below_drew1) | exact HB.out)⟩⟩
          case round =>
           clear H'
           try clear c1
           try clear q1
           try clear c2
           try clear p2
           try clear q2
           try clear hx2
           try clear c3
           try clear c4
           try clear p6
           try clear c8
           try clear c9
           try clear c9b0
           try clear c9b1
           try clear c9b2
           try clear c15
           try clear c15b0
           try clear c16
           try clear c16b0
           try clear c17
           try clear c17b0
           try clear q18
           try clear c19
           try clear c20
           try clear c20b0
           try clear c20b1
           try clear c21
           try clear c21b0
           try clear p22
           try clear q22
           try clear hx22
           try clear c24
           try clear c24b0
           try clear c25
           try clear c25b0
           try clear c26
           try clear c26b0
           try clear c27
           try clear c27b0
           try clear c28
           try clear c28b0
           try clear c28b1
           try clear c28b2
           try clear c31
           try clear c31b0
           try clear c31b1
           try clear c31b2
           try clear hx224_0
           try clear hx228_0
           try clear hx229_0
           try clear p2
           try clear p22
           try clear p224
           try clear p228
           try clear p229
           try clear p6
           try clear q1
           try clear q18
           try clear q2
           try clear q22
           try clear q224
           try clear q228
           try clear q229
           obtain ⟨x11_2, rfl, HA, HK2, HO_3, HO_5, HB⟩ := hrel
           cases gk with
           | zero => exact absurd HA.out (by simp [laws_FnLines.l2])
           | succ k2 =>
            have H := HA.out
            clear HA
            simp only [laws_FnLines.l2] at H
            by_cases c33 : x11_2 < (t213.length : Int)
            ·rw [if_pos c33] at H
             have c33b0 : decide (x11_2 < (t213.length : Int)) = true := decide_eq_true c33
             clear c33
             have HC34 := Aside0.mk H
             clear H
             go_upto_region 31 with (fail)
             repeat (go_quiet (fail); go_upto_region 31 with (fail))
             go_cut [123] (fun v123 wc => ∃ (kq : Nat) (x123_33 : Bool), v123 = .bool x123_33 ∧ Aside0 (laws_FnLines.j3 kq t213 t219 x11_2 x123_33 = some r) ∧ Aside0 (kq ≤ k2) ∧ Aside0 (Kd.S k41 41 wc w.heap.size (fun _ => True) (.slice Ao11 t213.length co11) t213) ∧ Aside0 (Kd.S (Kd.slice 2 (Kd.int .i64)) 37 wc w.heap.size (fun _ => True) (.slice Ao32 t219.length co32) t219) ∧ Aside0 (Below w.heap.size w wc))
             case first =>
              have H := HC34.out
              clear HC34
              by_cases c35 : 0 ≤ x11_2
              ·rw [if_pos c35] at H
               have c35b0 : decide (0 ≤ x11_2) = true := decide_eq_true c35
               clear c35
               (first | rw [c35b0] | (simp only [i64_w, i32_w]; rw [c35b0]) | skip)
               by_cases c36 : x11_2 < (t219.length : Int)
               ·rw [if_pos c36] at H
                have c36b0 : decide (x11_2 < (t219.length : Int)) = true := decide_eq_true c36
                clear c36
                by_cases c37 : ((rd_L1 t219 x11_2).length : Int) = 0
                ·rw [if_pos c37] at H
                 have c37b0 : (((rd_L1 t219 x11_2).length : Int) == 0) = true := beq_iff_eq.mpr c37
                 have c37b1 : (((rd_L1 t219 x11_2).length : Int) != 0) = false := bne_eq_false_iff_eq.mpr c37
                 clear c37
                 have H' := Aside0.mk H
                 clear H
                 have p230 : 0 ≤ (x11_2 : Int) := of_decide_eq_true (by first | (with_reducible assumption) | assumption)
                 have q230 : x11_2 < (t219.length : Int) := of_decide_eq_true (by first | (with_reducible assumption) | assumption)
                 obtain ⟨ad230, A230_0, c230_0, e230, hx230_0, hl230_0, hi230_0⟩ := at_L1 (Kd.S_reads' HO_5.out).2.2 x11_2 p230 q230
                 cases e230
                 obtain ⟨ce230, hce230, hMe230, hcc230⟩ := Kd.S_get HO_5.out [] x11_2 p230 (by first | exact q230 | exact of_decide_eq_true (by first | (with_reducible assumption) | assumption) | (have e_ := (Kd.S_reads' HO_5.out).1; omega))
                 obtain ⟨ve230_0, rfl, ge230_0⟩ := hMe230
                 have hv230_0 := hcc230 0 _ rfl
                 rw [Nat.add_zero, show ((Kd.slice 2 (Kd.int .i64))).sz = 1 from rfl, Nat.mul_one] at hv230_0
                 replace hv230_0 := Option.some.inj (hv230_0.symm.trans hx230_0)
                 rw [hv230_0] at ge230_0
                 have HL230_0 := Aside0.mk (show Kd.R (Kd.int .i64) 2 _ _ _ _ (rd_L1 t219 x11_2) from ge230_0)
                 clear hv230_0 ge230_0
                 clear hcc230 hce230
                 have HR230_0 := Aside0.mk hi230_0
                 have HC230_0 := Aside0.mk hl230_0
                 clear hi230_0 hl230_0
                 replace p230 := eq_true p230
                 replace q230 := eq_true q230
                 go_wp2
                 repeat (go_quiet (fail); try go_wp2)
                 go_meet
                 case rel => exact ⟨_, (true), (by first | rfl | (simp; done) | (simp [*]; done)), H', ⟨by have := HK1.out; have := HK2.out; first | omega | exact Nat.le_refl _⟩, ⟨by (with_reducible repeat (first | apply Kd.S_alloc | apply Kd.S_drewN | apply Kd.S_drew)); exact HO_3.out⟩, ⟨by (with_reducible repeat (first | apply Kd.S_alloc | apply Kd.S_drewN | apply Kd.S_drew)); exact HO_5.out⟩, ⟨by repeat (first | (with_reducible first | exact HB.out | apply below_alloc | apply pw_below_drewN | apply below_drew1) | exact HB.out)⟩⟩
                ·rw [if_neg c37] at H
                 have c37b0 : (((rd_L1 t219 x11_2).length : Int) == 0) = false := beq_eq_false_iff_ne.mpr c37
                 have c37b1 : (((rd_L1 t219 x11_2).length : Int) != 0) = true := bne_iff_ne.mpr c37
                 have c37b2 : ¬ ((rd_L1 t219 x11_2) = []) := fun h_ => c37 (by rw [h_]; rfl)
                 by_cases c38 : 0 < ((rd_L1 t219 x11_2).length : Int)
                 ·rw [if_pos c38] at H
                  have c38b0 : decide (0 < ((rd_L1 t219 x11_2).length : Int)) = true := decide_eq_true c38
                  have c38b1 : decide (0 < (rd_L1 t219 x11_2).length) = true := decide_eq_true (by omega)
                  clear c38
                  by_cases c39 : (rd (rd_L1 t219 x11_2) 0) = x11_2
                  ·rw [if_pos c39] at H
                   have c39b0 : ((rd (rd_L1 t219 x11_2) 0) == x11_2) = true := beq_iff_eq.mpr c39
                   have c39b1 : ((rd (rd_L1 t219 x11_2) 0) != x11_2) = false := bne_eq_false_iff_eq.mpr c39
                   clear c39
                   replace H := Option.bind_eq_some_iff.mp H
                   obtain ⟨t235, A400, H⟩ := H
                   replace H : (laws_FnLines.j3 k2 t213 t219 x11_2 (!t235)) = some r := H
                   have A40 := Aside0.mk A400
                   clear A400
                   have H' := Aside0.mk H
                   clear H
                   have p230 : 0 ≤ (x11_2 : Int) := of_decide_eq_true (by first | (with_reducible assumption) | assumption)
                   have q230 : x11_2 < (t219.length : Int) := of_decide_eq_true (by first | (with_reducible assumption) | assumption)
                   obtain ⟨ad230, A230_0, c230_0, e230, hx230_0, hl230_0, hi230_0⟩ := at_L1 (Kd.S_reads' HO_5.out).2.2 x11_2 p230 q230
                   cases e230
                   obtain ⟨ce230, hce230, hMe230, hcc230⟩ := Kd.S_get HO_5.out [] x11_2 p230 (by first | exact q230 | exact of_decide_eq_true (by first | (with_reducible assumption) | assumption) | (have e_ := (Kd.S_reads' HO_5.out).1; omega))
                   obtain ⟨ve230_0, rfl, ge230_0⟩ := hMe230
                   have hv230_0 := hcc230 0 _ rfl
                   rw [Nat.add_zero, show ((Kd.slice 2 (Kd.int .i64))).sz = 1 from rfl, Nat.mul_one] at hv230_0
                   replace hv230_0 := Option.some.inj (hv230_0.symm.trans hx230_0)
                   rw [hv230_0] at ge230_0
                   have HL230_0 := Aside0.mk (show Kd.R (Kd.int .i64) 2 _ _ _ _ (rd_L1 t219 x11_2) from ge230_0)
                   clear hv230_0 ge230_0
                   clear hcc230 hce230
                   have HR230_0 := Aside0.mk hi230_0
                   have HC230_0 := Aside0.mk hl230_0
                   clear hi230_0 hl230_0
                   replace p230 := eq_true p230
                   replace q230 := eq_true q230
                   have p231 : 0 ≤ (x11_2 : Int) := of_decide_eq_true (by first | (with_reducible assumption) | assumption)
                   have q231 : x11_2 < (t219.length : Int) := of_decide_eq_true (by first | (with_reducible assumption) | assumption)
                   obtain ⟨ad231, A231_0, c231_0, e231, hx231_0, hl231_0, hi231_0⟩ := at_L1 (Kd.S_reads' HO_5.out).2.2 x11_2 p231 q231
                   obtain rfl : ad230 = ad231 := (by injection e231)
                   obtain ⟨ce231, hce231, hMe231, hcc231⟩ := Kd.S_get HO_5.out [] x11_2 p231 (by first | exact q231 | exact of_decide_eq_true (by first | (with_reducible assumption) | assumption) | (have e_ := (Kd.S_reads' HO_5.out).1; omega))
                   obtain ⟨ve231_0, rfl, ge231_0⟩ := hMe231
                   have hv231_0 := hcc231 0 _ rfl
                   rw [Nat.add_zero, show ((Kd.slice 2 (Kd.int .i64))).sz = 1 from rfl, Nat.mul_one] at hv231_0
                   replace hv231_0 := Option.some.inj (hv231_0.symm.trans hx231_0)
                   rw [hv231_0] at ge231_0
                   have HL231_0 := Aside0.mk (show Kd.R (Kd.int .i64) 2 _ _ _ _ (rd_L1 t219 x11_2) from ge231_0)
                   clear hv231_0 ge231_0
                   clear hcc231 hce231
                   have HR231_0 := Aside0.mk hi231_0
                   have HC231_0 := Aside0.mk hl231_0
                   clear hi231_0 hl231_0
                   replace p231 := eq_true p231
                   replace q231 := eq_true q231
                   have ea_ := Option.some.inj (hx230_0.symm.trans hx231_0)
                   injection ea_ with ea_ en_ ec_
                   subst ea_
                   subst ec_
                   clear en_
                   have p232 : 0 ≤ (0 : Int) := (by omega)
                   have q232 : 0 < ((rd_L1 t219 x11_2).length : Int) := of_decide_eq_true (by first | (with_reducible assumption) | assumption)
                   obtain ⟨ad232, e232, hx232_0⟩ := Kd.at_int (by repeat (first | (with_reducible exact HR231_0.out) | (with_reducible refine Kd.C_alloc ?_ _) | (with_reducible refine Kd.C_drewN ?_ _) | (with_reducible refine Kd.C_drew ?_) | exact HR231_0.out)) 0 p232 q232
                   cases e232
                   have qi232 : (0 < (rd_L1 t219 x11_2).length) = True := eq_true (by omega)
                   (try rw [show ((0 : Int)).toNat = 0 from rfl] at hx232_0)
                   (try rw [Addr.add_zero'] at hx232_0)
                   replace p232 := eq_true p232
                   replace q232 := eq_true q232
                   have p233 : 0 ≤ (x11_2 : Int) := of_decide_eq_true (by first | (with_reducible assumption) | assumption)
                   have q233 : x11_2 < (t213.length : Int) := of_decide_eq_true (by first | (with_reducible assumption) | assumption)
                   obtain ⟨ad233, A233_0, c233_0, A233_1, c233_1, e233, hx233_0, hx233_1, hl233_0, hi233_0, hl233_1, hi233_1⟩ := at_T41 (Kd.S_reads' HO_3.out).2.2 x11_2 p233 q233
                   cases e233
                   obtain ⟨ce233, hce233, hMe233, hcc233⟩ := Kd.S_get HO_3.out z41 x11_2 p233 (by first | exact q233 | exact of_decide_eq_true (by first | (with_reducible assumption) | assumption) | (have e_ := (Kd.S_reads' HO_3.out).1; omega))
                   obtain ⟨ve233_0, ve233_1, rfl, ge233_0, ge233_1⟩ := k41_openM hMe233
                   have hv233_0 := hcc233 0 _ rfl
                   rw [Nat.add_zero] at hv233_0
                   replace hv233_0 := Option.some.inj (hv233_0.symm.trans hx233_0)
                   rw [hv233_0] at ge233_0
                   have HL233_0 := Aside0.mk (show Kd.R (Kd.int .i64) 2 _ _ _ _ ((rd_T41 t213 x11_2).f0) from ge233_0)
                   clear hv233_0 ge233_0
                   have hv233_1 := hcc233 1 _ rfl
                   rw [add_field _ _ 1 (by omega)] at hv233_1
                   replace hv233_1 := Option.some.inj (hv233_1.symm.trans hx233_1)
                   rw [hv233_1] at ge233_1
                   have HL233_1 := Aside0.mk (show Kd.R k48 48 _ _ _ _ ((rd_T41 t213 x11_2).f1) from ge233_1)
                   clear hv233_1 ge233_1
                   clear hcc233 hce233
                   have HR233_0 := Aside0.mk hi233_0
                   have HC233_0 := Aside0.mk hl233_0
                   clear hi233_0 hl233_0
                   have HR233_1 := Aside0.mk hi233_1
                   have HC233_1 := Aside0.mk hl233_1
                   clear hi233_1 hl233_1
                   replace p233 := eq_true p233
                   replace q233 := eq_true q233
                   have p234 : 0 ≤ (x11_2 : Int) := of_decide_eq_true (by first | (with_reducible assumption) | assumption)
                   have q234 : x11_2 < (t219.length : Int) := of_decide_eq_true (by first | (with_reducible assumption) | assumption)
                   obtain ⟨ad234, A234_0, c234_0, e234, hx234_0, hl234_0, hi234_0⟩ := at_L1 (Kd.S_reads' HO_5.out).2.2 x11_2 p234 q234
                   obtain rfl : ad230 = ad234 := (by injection e234)
                   obtain ⟨ce234, hce234, hMe234, hcc234⟩ := Kd.S_get HO_5.out [] x11_2 p234 (by first | exact q234 | exact of_decide_eq_true (by first | (with_reducible assumption) | assumption) | (have e_ := (Kd.S_reads' HO_5.out).1; omega))
                   obtain ⟨ve234_0, rfl, ge234_0⟩ := hMe234
                   have hv234_0 := hcc234 0 _ rfl
                   rw [Nat.add_zero, show ((Kd.slice 2 (Kd.int .i64))).sz = 1 from rfl, Nat.mul_one] at hv234_0
                   replace hv234_0 := Option.some.inj (hv234_0.symm.trans hx234_0)
                   rw [hv234_0] at ge234_0
                   have HL234_0 := Aside0.mk (show Kd.R (Kd.int .i64) 2 _ _ _ _ (rd_L1 t219 x11_2) from ge234_0)
                   clear hv234_0 ge234_0
                   clear hcc234 hce234
                   have HR234_0 := Aside0.mk hi234_0
                   have HC234_0 := Aside0.mk hl234_0
                   clear hi234_0 hl234_0
                   replace p234 := eq_true p234
                   replace q234 := eq_true q234
                   have ea_ := Option.some.inj (hx230_0.symm.trans hx234_0)
                   injection ea_ with ea_ en_ ec_
                   subst ea_
                   subst ec_
                   clear en_
                   go_wp2_with (first | (go_at_call 20; (with_reducible refine (laws_within.calls k2 _ _ ((rd_T41 t213 x11_2).f0) _ _ (rd_L1 t219 x11_2) t235 _ ?side1 ?side2 ?side3 ?side4 A40.out).mono ?_); (case side1 => repeat (first | exact (by repeat (first | (with_reducible exact HR233_0.out) | (with_reducible refine Kd.C_alloc ?_ _) | (with_reducible refine Kd.C_drewN ?_ _) | (with_reducible refine Kd.C_drew ?_) | exact HR233_0.out)) | (with_reducible refine Kd.C_alloc ?_ _) | (with_reducible refine Kd.C_drewN ?_ _) | (with_reducible refine Kd.C_drew ?_))); (case side2 => exact HC233_0.out); (case side3 => repeat (first | exact (by repeat (first | (with_reducible exact HR234_0.out) | (with_reducible refine Kd.C_alloc ?_ _) | (with_reducible refine Kd.C_drewN ?_ _) | (with_reducible refine Kd.C_drew ?_) | exact HR234_0.out)) | (with_reducible refine Kd.C_alloc ?_ _) | (with_reducible refine Kd.C_drewN ?_ _) | (with_reducible refine Kd.C_drew ?_))); (case side4 => exact HC234_0.out); rintro e w' ⟨rfl, ⟨nd, rfl⟩⟩; (try first | exact ⟨rfl, _, World.drewN_drewN _ _ _⟩ | exact ⟨rfl, _, Eq.trans (World.drewN_drewN _ _ _) (congrArg (World.drewN _) (Nat.add_assoc _ _ _))⟩)))
                   repeat (go_quiet (first | (go_at_call 20; (with_reducible refine (laws_within.calls k2 _ _ ((rd_T41 t213 x11_2).f0) _ _ (rd_L1 t219 x11_2) t235 _ ?side1 ?side2 ?side3 ?side4 A40.out).mono ?_); (case side1 => repeat (first | exact (by repeat (first | (with_reducible exact HR233_0.out) | (with_reducible refine Kd.C_alloc ?_ _) | (with_reducible refine Kd.C_drewN ?_ _) | (with_reducible refine Kd.C_drew ?_) | exact HR233_0.out)) | (with_reducible refine Kd.C_alloc ?_ _) | (with_reducible refine Kd.C_drewN ?_ _) | (with_reducible refine Kd.C_drew ?_))); (case side2 => exact HC233_0.out); (case side3 => repeat (first | exact (by repeat (first | (with_reducible exact HR234_0.out) | (with_reducible refine Kd.C_alloc ?_ _) | (with_reducible refine Kd.C_drewN ?_ _) | (with_reducible refine Kd.C_drew ?_) | exact HR234_0.out)) | (with_reducible refine Kd.C_alloc ?_ _) | (with_reducible refine Kd.C_drewN ?_ _) | (with_reducible refine Kd.C_drew ?_))); (case side4 => exact HC234_0.out); rintro e w' ⟨rfl, ⟨nd, rfl⟩⟩; (try first | exact ⟨rfl, _, World.drewN_drewN _ _ _⟩ | exact ⟨rfl, _, Eq.trans (World.drewN_drewN _ _ _) (congrArg (World.drewN _) (Nat.add_assoc _ _ _))⟩))); try go_wp2_with (first | (go_at_call 20; (with_reducible refine (laws_within.calls k2 _ _ ((rd_T41 t213 x11_2).f0) _ _ (rd_L1 t219 x11_2) t235 _ ?side1 ?side2 ?side3 ?side4 A40.out).mono ?_); (case side1 => repeat (first | exact (by repeat (first | (with_reducible exact HR233_0.out) | (with_reducible refine Kd.C_alloc ?_ _) | (with_reducible refine Kd.C_drewN ?_ _) | (with_reducible refine Kd.C_drew ?_) | exact HR233_0.out)) | (with_reducible refine Kd.C_alloc ?_ _) | (with_reducible refine Kd.C_drewN ?_ _) | (with_reducible refine Kd.C_drew ?_))); (case side2 => exact HC233_0.out); (case side3 => repeat (first | exact (by repeat (first | (with_reducible exact HR234_0.out) | (with_reducible refine Kd.C_alloc ?_ _) | (with_reducible refine Kd.C_drewN ?_ _) | (with_reducible refine Kd.C_drew ?_) | exact HR234_0.out)) | (with_reducible refine Kd.C_alloc ?_ _) | (with_reducible refine Kd.C_drewN ?_ _) | (with_reducible refine Kd.C_drew ?_))); (case side4 => exact HC234_0.out); rintro e w' ⟨rfl, ⟨nd, rfl⟩⟩; (try first | exact ⟨rfl, _, World.drewN_drewN _ _ _⟩ | exact ⟨rfl, _, Eq.trans (World.drewN_drewN _ _ _) (congrArg (World.drewN _) (Nat.add_assoc _ _ _))⟩))))
                   go_meet
                   case rel => exact ⟨_, (!t235), (by first | rfl | (simp; done) | (simp [*]; done)), H', ⟨by have := HK1.out; have := HK2.out; first | omega | exact Nat.le_refl _⟩, ⟨by (with_reducible repeat (first | apply Kd.S_alloc | apply Kd.S_drewN | apply Kd.S_drew)); exact HO_3.out⟩, ⟨by (with_reducible repeat (first | apply Kd.S_alloc | apply Kd.S_drewN | apply Kd.S_drew)); exact HO_5.out⟩, ⟨by repeat (first | (with_reducible first | exact HB.out | apply below_alloc | apply pw_below_drewN | apply below_drew1) | exact HB.out)⟩⟩
                  ·rw [if_neg c39] at H
                   have c39b0 : ((rd (rd_L1 t219 x11_2) 0) == x11_2) = false := beq_eq_false_iff_ne.mpr c39
                   have c39b1 : ((rd (rd_L1 t219 x11_2) 0) != x11_2) = true := bne_iff_ne.mpr c39
                   have H' := Aside0.mk H
                   clear H
                   have p230 : 0 ≤ (x11_2 : Int) := of_decide_eq_true (by first | (with_reducible assumption) | assumption)
                   have q230 : x11_2 < (t219.length : Int) := of_decide_eq_true (by first | (with_reducible assumption) | assumption)
                   obtain ⟨ad230, A230_0, c230_0, e230, hx230_0, hl230_0, hi230_0⟩ := at_L1 (Kd.S_reads' HO_5.out).2.2 x11_2 p230 q230
                   cases e230
                   obtain ⟨ce230, hce230, hMe230, hcc230⟩ := Kd.S_get HO_5.out [] x11_2 p230 (by first | exact q230 | exact of_decide_eq_true (by first | (with_reducible assumption) | assumption) | (have e_ := (Kd.S_reads' HO_5.out).1; omega))
                   obtain ⟨ve230_0, rfl, ge230_0⟩ := hMe230
                   have hv230_0 := hcc230 0 _ rfl
                   rw [Nat.add_zero, show ((Kd.slice 2 (Kd.int .i64))).sz = 1 from rfl, Nat.mul_one] at hv230_0
                   replace hv230_0 := Option.some.inj (hv230_0.symm.trans hx230_0)
                   rw [hv230_0] at ge230_0
                   have HL230_0 := Aside0.mk (show Kd.R (Kd.int .i64) 2 _ _ _ _ (rd_L1 t219 x11_2) from ge230_0)
                   clear hv230_0 ge230_0
                   clear hcc230 hce230
                   have HR230_0 := Aside0.mk hi230_0
                   have HC230_0 := Aside0.mk hl230_0
                   clear hi230_0 hl230_0
                   replace p230 := eq_true p230
                   replace q230 := eq_true q230
                   have p231 : 0 ≤ (x11_2 : Int) := of_decide_eq_true (by first | (with_reducible assumption) | assumption)
                   have q231 : x11_2 < (t219.length : Int) := of_decide_eq_true (by first | (with_reducible assumption) | assumption)
                   obtain ⟨ad231, A231_0, c231_0, e231, hx231_0, hl231_0, hi231_0⟩ := at_L1 (Kd.S_reads' HO_5.out).2.2 x11_2 p231 q231
                   obtain rfl : ad230 = ad231 := (by injection e231)
                   obtain ⟨ce231, hce231, hMe231, hcc231⟩ := Kd.S_get HO_5.out [] x11_2 p231 (by first | exact q231 | exact of_decide_eq_true (by first | (with_reducible assumption) | assumption) | (have e_ := (Kd.S_reads' HO_5.out).1; omega))
                   obtain ⟨ve231_0, rfl, ge231_0⟩ := hMe231
                   have hv231_0 := hcc231 0 _ rfl
                   rw [Nat.add_zero, show ((Kd.slice 2 (Kd.int .i64))).sz = 1 from rfl, Nat.mul_one] at hv231_0
                   replace hv231_0 := Option.some.inj (hv231_0.symm.trans hx231_0)
                   rw [hv231_0] at ge231_0
                   have HL231_0 := Aside0.mk (show Kd.R (Kd.int .i64) 2 _ _ _ _ (rd_L1 t219 x11_2) from ge231_0)
                   clear hv231_0 ge231_0
                   clear hcc231 hce231
                   have HR231_0 := Aside0.mk hi231_0
                   have HC231_0 := Aside0.mk hl231_0
                   clear hi231_0 hl231_0
                   replace p231 := eq_true p231
                   replace q231 := eq_true q231
                   have ea_ := Option.some.inj (hx230_0.symm.trans hx231_0)
                   injection ea_ with ea_ en_ ec_
                   subst ea_
                   subst ec_
                   clear en_
                   have p232 : 0 ≤ (0 : Int) := (by omega)
                   have q232 : 0 < ((rd_L1 t219 x11_2).length : Int) := of_decide_eq_true (by first | (with_reducible assumption) | assumption)
                   obtain ⟨ad232, e232, hx232_0⟩ := Kd.at_int (by repeat (first | (with_reducible exact HR231_0.out) | (with_reducible refine Kd.C_alloc ?_ _) | (with_reducible refine Kd.C_drewN ?_ _) | (with_reducible refine Kd.C_drew ?_) | exact HR231_0.out)) 0 p232 q232
                   cases e232
                   have qi232 : (0 < (rd_L1 t219 x11_2).length) = True := eq_true (by omega)
                   (try rw [show ((0 : Int)).toNat = 0 from rfl] at hx232_0)
                   (try rw [Addr.add_zero'] at hx232_0)
                   replace p232 := eq_true p232
                   replace q232 := eq_true q232
                   go_wp2
                   repeat (go_quiet (fail); try go_wp2)
                   go_meet
                   case rel => exact ⟨_, (true), (by first | rfl | (simp; done) | (simp [*]; done)), H', ⟨by have := HK1.out; have := HK2.out; first | omega | exact Nat.le_refl _⟩, ⟨by (with_reducible repeat (first | apply Kd.S_alloc | apply Kd.S_drewN | apply Kd.S_drew)); exact HO_3.out⟩, ⟨by (with_reducible repeat (first | apply Kd.S_alloc | apply Kd.S_drewN | apply Kd.S_drew)); exact HO_5.out⟩, ⟨by repeat (first | (with_reducible first | exact HB.out | apply below_alloc | apply pw_below_drewN | apply below_drew1) | exact HB.out)⟩⟩
                 ·rw [if_neg c38] at H
                  exact absurd H (by simp)
               ·rw [if_neg c36] at H
                exact absurd H (by simp)
              ·rw [if_neg c35] at H
               exact absurd H (by simp)
             case rest =>
              clear HC34
              try clear c1
              try clear q1
              try clear c2
              try clear p2
              try clear q2
              try clear hx2
              try clear qi2
              try clear c3
              try clear c4
              try clear p6
              try clear c8
              try clear c9
              try clear c9b0
              try clear c9b1
              try clear c9b2
              try clear c15
              try clear c15b0
              try clear c16
              try clear c16b0
              try clear c17
              try clear c17b0
              try clear q18
              try clear c19
              try clear c20
              try clear c20b0
              try clear c20b1
              try clear c21
              try clear c21b0
              try clear p22
              try clear q22
              try clear hx22
              try clear c23
              try clear p23
              try clear q23
              try clear hx23
              try clear qi23
              try clear c24
              try clear c24b0
              try clear c25
              try clear c25b0
              try clear c26
              try clear c26b0
              try clear c27
              try clear c27b0
              try clear c28
              try clear c28b0
              try clear c28b1
              try clear c28b2
              try clear c31
              try clear c31b0
              try clear c31b1
              try clear c31b2
              try clear c33
              try clear c33b0
              try clear c35
              try clear c35b0
              try clear c36
              try clear c36b0
              try clear c37
              try clear c37b0
              try clear c37b1
              try clear c37b2
              try clear c38
              try clear c38b0
              try clear c38b1
              try clear c39
              try clear c39b0
              try clear c39b1
              try clear hx224_0
              try clear hx228_0
              try clear hx229_0
              try clear hx230_0
              try clear hx231_0
              try clear hx232_0
              try clear hx233_0
              try clear hx233_1
              try clear hx234_0
              try clear p2
              try clear p22
              try clear p224
              try clear p228
              try clear p229
              try clear p230
              try clear p231
              try clear p232
              try clear p233
              try clear p234
              try clear p6
              try clear q1
              try clear q18
              try clear q2
              try clear q22
              try clear q224
              try clear q228
              try clear q229
              try clear q230
              try clear q231
              try clear q232
              try clear q233
              try clear q234
              obtain ⟨kq, x123_33, rfl, HA, HJ33, HO_3, HO_5, HB⟩ := hcut
              cases kq with
              | zero => exact absurd HA.out (by simp [laws_FnLines.j3])
              | succ kj33 =>
               have H := HA.out
               clear HA
               simp only [laws_FnLines.j3] at H
               by_cases c41 : x123_33 = true
               ·subst c41
                have H1 : (none) = some r := by rw [if_pos rfl] at H; exact H
                clear H
                have H := H1
                clear H1
                exact absurd H (by simp)
               ·replace c41 := Bool.eq_false_iff.mpr c41
                subst c41
                have H1 : (laws_FnLines.l3 kj33 t213 t219 x11_2 0) = some r := by rw [if_neg (show ¬ (false = true) by decide)] at H; exact H
                clear H
                have H := H1
                clear H1
                have H' := Aside0.mk H
                clear H
                go_wp2
                repeat (go_quiet (fail); try go_wp2)
                go_loopg [12] kj33 (fun kq v12 w' => ∃ (x12_4 : Int), v12 = .int .i64 x12_4 ∧ Aside0 (laws_FnLines.l3 kq t213 t219 x11_2 x12_4 = some r) ∧ Aside0 (kq ≤ kj33) ∧ Aside0 (Kd.S k41 41 w' w.heap.size (fun _ => True) (.slice Ao11 t213.length co11) t213) ∧ Aside0 (Kd.S (Kd.slice 2 (Kd.int .i64)) 37 w' w.heap.size (fun _ => True) (.slice Ao32 t219.length co32) t219) ∧ Aside0 (Below w.heap.size w w'))
                case atStart => exact ⟨(0), (by first | rfl | (simp; done) | (simp [*]; done)), H', ⟨Nat.le_refl _⟩, ⟨by (with_reducible repeat (first | apply Kd.S_alloc | apply Kd.S_drewN | apply Kd.S_drew)); exact HO_3.out⟩, ⟨by (with_reducible repeat (first | apply Kd.S_alloc | apply Kd.S_drewN | apply Kd.S_drew)); exact HO_5.out⟩, ⟨by repeat (first | (with_reducible first | exact HB.out | apply below_alloc | apply pw_below_drewN | apply below_drew1) | exact HB.out)⟩⟩
                case round =>
                 clear H'
                 try clear c1
                 try clear q1
                 try clear c2
                 try clear p2
                 try clear q2
                 try clear hx2
                 try clear qi2
                 try clear c3
                 try clear c4
                 try clear p6
                 try clear c8
                 try clear c9
                 try clear c9b0
                 try clear c9b1
                 try clear c9b2
                 try clear c15
                 try clear c15b0
                 try clear c16
                 try clear c16b0
                 try clear c17
                 try clear c17b0
                 try clear q18
                 try clear c19
                 try clear c20
                 try clear c20b0
                 try clear c20b1
                 try clear c21
                 try clear c21b0
                 try clear p22
                 try clear q22
                 try clear hx22
                 try clear c23
                 try clear p23
                 try clear q23
                 try clear hx23
                 try clear qi23
                 try clear c24
                 try clear c24b0
                 try clear c25
                 try clear c25b0
                 try clear c26
                 try clear c26b0
                 try clear c27
                 try clear c27b0
                 try clear c28
                 try clear c28b0
                 try clear c28b1
                 try clear c28b2
                 try clear c31
                 try clear c31b0
                 try clear c31b1
                 try clear c31b2
                 try clear c33
                 try clear c33b0
                 try clear c35
                 try clear c35b0
                 try clear c36
                 try clear c36b0
                 try clear c37
                 try clear c37b0
                 try clear c37b1
                 try clear c37b2
                 try clear c38
                 try clear c38b0
                 try clear c38b1
                 try clear c39
                 try clear c39b0
                 try clear c39b1
                 try clear c41
                 try clear hx224_0
                 try clear hx228_0
                 try clear hx229_0
                 try clear hx230_0
                 try clear hx231_0
                 try clear hx232_0
                 try clear hx233_0
                 try clear hx233_1
                 try clear hx234_0
                 try clear p2
                 try clear p22
                 try clear p224
                 try clear p228
                 try clear p229
                 try clear p23
                 try clear p230
                 try clear p231
                 try clear p232
                 try clear p233
                 try clear p234
                 try clear p6
                 try clear q1
                 try clear q18
                 try clear q2
                 try clear q22
                 try clear q224
                 try clear q228
                 try clear q229
                 try clear q23
                 try clear q230
                 try clear q231
                 try clear q232
                 try clear q233
                 try clear q234
                 obtain ⟨x12_4, rfl, HA, HK4, HO_3, HO_5, HB⟩ := hrel
                 cases gk with
                 | zero => exact absurd HA.out (by simp [laws_FnLines.l3])
                 | succ k4 =>
                  have H := HA.out
                  clear HA
                  simp only [laws_FnLines.l3] at H
                  by_cases c42 : 0 ≤ x11_2
                  ·rw [if_pos c42] at H
                   have c42b0 : decide (0 ≤ x11_2) = true := decide_eq_true c42
                   clear c42
                   by_cases c43 : x11_2 < (t219.length : Int)
                   ·rw [if_pos c43] at H
                    have c43b0 : decide (x11_2 < (t219.length : Int)) = true := decide_eq_true c43
                    clear c43
                    by_cases c44 : x12_4 < ((rd_L1 t219 x11_2).length : Int)
                    ·rw [if_pos c44] at H
                     have c44b0 : decide (x12_4 < ((rd_L1 t219 x11_2).length : Int)) = true := decide_eq_true c44
                     clear c44
                     have H' := Aside0.mk H
                     clear H
                     have p236 : 0 ≤ (x11_2 : Int) := of_decide_eq_true (by first | (with_reducible assumption) | assumption)
                     have q236 : x11_2 < (t219.length : Int) := of_decide_eq_true (by first | (with_reducible assumption) | assumption)
                     obtain ⟨ad236, A236_0, c236_0, e236, hx236_0, hl236_0, hi236_0⟩ := at_L1 (Kd.S_reads' HO_5.out).2.2 x11_2 p236 q236
                     cases e236
                     obtain ⟨ce236, hce236, hMe236, hcc236⟩ := Kd.S_get HO_5.out [] x11_2 p236 (by first | exact q236 | exact of_decide_eq_true (by first | (with_reducible assumption) | assumption) | (have e_ := (Kd.S_reads' HO_5.out).1; omega))
                     obtain ⟨ve236_0, rfl, ge236_0⟩ := hMe236
                     have hv236_0 := hcc236 0 _ rfl
                     rw [Nat.add_zero, show ((Kd.slice 2 (Kd.int .i64))).sz = 1 from rfl, Nat.mul_one] at hv236_0
                     replace hv236_0 := Option.some.inj (hv236_0.symm.trans hx236_0)
                     rw [hv236_0] at ge236_0
                     have HL236_0 := Aside0.mk (show Kd.R (Kd.int .i64) 2 _ _ _ _ (rd_L1 t219 x11_2) from ge236_0)
                     clear hv236_0 ge236_0
                     clear hcc236 hce236
                     have HR236_0 := Aside0.mk hi236_0
                     have HC236_0 := Aside0.mk hl236_0
                     clear hi236_0 hl236_0
                     replace p236 := eq_true p236
                     replace q236 := eq_true q236
                     go_wp2
                     repeat (go_quiet (fail); try go_wp2)
                     go_loopg [13] k4 (fun kq v13 w' => ∃ (x13_5 : Int), v13 = .int .i64 x13_5 ∧ Aside0 (laws_FnLines.l4 kq t213 t219 x11_2 x12_4 x13_5 = some r) ∧ Aside0 (kq ≤ k4) ∧ Aside0 (Kd.S k41 41 w' w.heap.size (fun _ => True) (.slice Ao11 t213.length co11) t213) ∧ Aside0 (Kd.S (Kd.slice 2 (Kd.int .i64)) 37 w' w.heap.size (fun _ => True) (.slice (some ad236) t219.length co32) t219) ∧ Aside0 (Kd.C (Kd.int .i64) w' A236_0 (rd_L1 t219 x11_2).length (rd_L1 t219 x11_2)) ∧ Aside0 (Below w.heap.size w w'))
                     case atStart => exact ⟨(0), (by first | rfl | (simp; done) | (simp [*]; done)), H', ⟨Nat.le_refl _⟩, ⟨by (with_reducible repeat (first | apply Kd.S_alloc | apply Kd.S_drewN | apply Kd.S_drew)); exact HO_3.out⟩, ⟨by (with_reducible repeat (first | apply Kd.S_alloc | apply Kd.S_drewN | apply Kd.S_drew)); exact HO_5.out⟩, ⟨by repeat (first | (with_reducible exact HR236_0.out) | (with_reducible refine Kd.C_alloc ?_ _) | (with_reducible refine Kd.C_drewN ?_ _) | (with_reducible refine Kd.C_drew ?_) | exact HR236_0.out)⟩, ⟨by repeat (first | (with_reducible first | exact HB.out | apply below_alloc | apply pw_below_drewN | apply below_drew1) | exact HB.out)⟩⟩
                     case round =>
                      clear H'
                      try clear c1
                      try clear q1
                      try clear c2
                      try clear p2
                      try clear q2
                      try clear hx2
                      try clear qi2
                      try clear c3
                      try clear c4
                      try clear p6
                      try clear c8
                      try clear c9
                      try clear c9b0
                      try clear c9b1
                      try clear c9b2
                      try clear c15
                      try clear c15b0
                      try clear c16
                      try clear c16b0
                      try clear c17
                      try clear c17b0
                      try clear q18
                      try clear c19
                      try clear c20
                      try clear c20b0
                      try clear c20b1
                      try clear c21
                      try clear c21b0
                      try clear p22
                      try clear q22
                      try clear hx22
                      try clear c23
                      try clear p23
                      try clear q23
                      try clear hx23
                      try clear qi23
                      try clear c24
                      try clear c24b0
                      try clear c25
                      try clear c25b0
                      try clear c26
                      try clear c26b0
                      try clear c27
                      try clear c27b0
                      try clear c28
                      try clear c28b0
                      try clear c28b1
                      try clear c28b2
                      try clear c31
                      try clear c31b0
                      try clear c31b1
                      try clear c31b2
                      try clear c33
                      try clear c33b0
                      try clear c35
                      try clear c35b0
                      try clear c36
                      try clear c36b0
                      try clear c37
                      try clear c37b0
                      try clear c37b1
                      try clear c37b2
                      try clear c38
                      try clear c38b0
                      try clear c38b1
                      try clear c39
                      try clear c39b0
                      try clear c39b1
                      try clear c41
                      try clear c42
                      try clear c42b0
                      try clear c43
                      try clear c43b0
                      try clear c44
                      try clear c44b0
                      try clear hx224_0
                      try clear hx228_0
                      try clear hx229_0
                      try clear hx230_0
                      try clear hx231_0
                      try clear hx232_0
                      try clear hx233_0
                      try clear hx233_1
                      try clear hx234_0
                      try clear hx236_0
                      try clear p2
                      try clear p22
                      try clear p224
                      try clear p228
                      try clear p229
                      try clear p23
                      try clear p230
                      try clear p231
                      try clear p232
                      try clear p233
                      try clear p234
                      try clear p236
                      try clear p6
                      try clear q1
                      try clear q18
                      try clear q2
                      try clear q22
                      try clear q224
                      try clear q228
                      try clear q229
                      try clear q23
                      try clear q230
                      try clear q231
                      try clear q232
                      try clear q233
                      try clear q234
                      try clear q236
                      obtain ⟨x13_5, rfl, HA, HK5, HO_3, HO_5, HR236_0, HB⟩ := hrel
                      cases gk with
                      | zero => exact absurd HA.out (by simp [laws_FnLines.l4])
                      | succ k5 =>
                       have H := HA.out
                       clear HA
                       simp only [laws_FnLines.l4] at H
                       by_cases c45 : x13_5 < x12_4
                       ·rw [if_pos c45] at H
                        have c45b0 : decide (x13_5 < x12_4) = true := decide_eq_true c45
                        clear c45
                        by_cases c46 : 0 ≤ x11_2
                        ·rw [if_pos c46] at H
                         have c46b0 : decide (0 ≤ x11_2) = true := decide_eq_true c46
                         clear c46
                         by_cases c47 : x11_2 < (t219.length : Int)
                         ·rw [if_pos c47] at H
                          have c47b0 : decide (x11_2 < (t219.length : Int)) = true := decide_eq_true c47
                          clear c47
                          by_cases c48 : 0 ≤ x13_5
                          ·rw [if_pos c48] at H
                           have c48b0 : decide (0 ≤ x13_5) = true := decide_eq_true c48
                           clear c48
                           by_cases c49 : x13_5 < ((rd_L1 t219 x11_2).length : Int)
                           ·rw [if_pos c49] at H
                            have c49b0 : decide (x13_5 < ((rd_L1 t219 x11_2).length : Int)) = true := decide_eq_true c49
                            clear c49
                            by_cases c50 : 0 ≤ x12_4
                            ·rw [if_pos c50] at H
                             have c50b0 : decide (0 ≤ x12_4) = true := decide_eq_true c50
                             clear c50
                             by_cases c51 : x12_4 < ((rd_L1 t219 x11_2).length : Int)
                             ·rw [if_pos c51] at H
                              have c51b0 : decide (x12_4 < ((rd_L1 t219 x11_2).length : Int)) = true := decide_eq_true c51
                              clear c51
                              by_cases c52 : (rd (rd_L1 t219 x11_2) x13_5) = (rd (rd_L1 t219 x11_2) x12_4)
                              ·rw [if_pos c52] at H
                               exact absurd H (by simp)
                              ·rw [if_neg c52] at H
                               have c52b0 : ((rd (rd_L1 t219 x11_2) x13_5) == (rd (rd_L1 t219 x11_2) x12_4)) = false := beq_eq_false_iff_ne.mpr c52
                               have c52b1 : ((rd (rd_L1 t219 x11_2) x13_5) != (rd (rd_L1 t219 x11_2) x12_4)) = true := bne_iff_ne.mpr c52
                               have H' := Aside0.mk H
                               clear H
                               have p237 : 0 ≤ (x11_2 : Int) := of_decide_eq_true (by first | (with_reducible assumption) | assumption)
                               have q237 : x11_2 < (t219.length : Int) := of_decide_eq_true (by first | (with_reducible assumption) | assumption)
                               obtain ⟨ad237, A237_0, c237_0, e237, hx237_0, hl237_0, hi237_0⟩ := at_L1 (Kd.S_reads' HO_5.out).2.2 x11_2 p237 q237
                               obtain rfl : ad236 = ad237 := (by injection e237)
                               obtain ⟨ce237, hce237, hMe237, hcc237⟩ := Kd.S_get HO_5.out [] x11_2 p237 (by first | exact q237 | exact of_decide_eq_true (by first | (with_reducible assumption) | assumption) | (have e_ := (Kd.S_reads' HO_5.out).1; omega))
                               obtain ⟨ve237_0, rfl, ge237_0⟩ := hMe237
                               have hv237_0 := hcc237 0 _ rfl
                               rw [Nat.add_zero, show ((Kd.slice 2 (Kd.int .i64))).sz = 1 from rfl, Nat.mul_one] at hv237_0
                               replace hv237_0 := Option.some.inj (hv237_0.symm.trans hx237_0)
                               rw [hv237_0] at ge237_0
                               have HL237_0 := Aside0.mk (show Kd.R (Kd.int .i64) 2 _ _ _ _ (rd_L1 t219 x11_2) from ge237_0)
                               clear hv237_0 ge237_0
                               clear hcc237 hce237
                               have HR237_0 := Aside0.mk hi237_0
                               have HC237_0 := Aside0.mk hl237_0
                               clear hi237_0 hl237_0
                               replace p237 := eq_true p237
                               replace q237 := eq_true q237
                               have p238 : 0 ≤ (x13_5 : Int) := of_decide_eq_true (by first | (with_reducible assumption) | assumption)
                               have q238 : x13_5 < ((rd_L1 t219 x11_2).length : Int) := of_decide_eq_true (by first | (with_reducible assumption) | assumption)
                               obtain ⟨ad238, e238, hx238_0⟩ := Kd.at_int (by repeat (first | (with_reducible exact HR237_0.out) | (with_reducible refine Kd.C_alloc ?_ _) | (with_reducible refine Kd.C_drewN ?_ _) | (with_reducible refine Kd.C_drew ?_) | exact HR237_0.out)) x13_5 p238 q238
                               cases e238
                               replace p238 := eq_true p238
                               replace q238 := eq_true q238
                               have p239 : 0 ≤ (x11_2 : Int) := of_decide_eq_true (by first | (with_reducible assumption) | assumption)
                               have q239 : x11_2 < (t219.length : Int) := of_decide_eq_true (by first | (with_reducible assumption) | assumption)
                               obtain ⟨ad239, A239_0, c239_0, e239, hx239_0, hl239_0, hi239_0⟩ := at_L1 (Kd.S_reads' HO_5.out).2.2 x11_2 p239 q239
                               obtain rfl : ad236 = ad239 := (by injection e239)
                               obtain ⟨ce239, hce239, hMe239, hcc239⟩ := Kd.S_get HO_5.out [] x11_2 p239 (by first | exact q239 | exact of_decide_eq_true (by first | (with_reducible assumption) | assumption) | (have e_ := (Kd.S_reads' HO_5.out).1; omega))
                               obtain ⟨ve239_0, rfl, ge239_0⟩ := hMe239
                               have hv239_0 := hcc239 0 _ rfl
                               rw [Nat.add_zero, show ((Kd.slice 2 (Kd.int .i64))).sz = 1 from rfl, Nat.mul_one] at hv239_0
                               replace hv239_0 := Option.some.inj (hv239_0.symm.trans hx239_0)
                               rw [hv239_0] at ge239_0
                               have HL239_0 := Aside0.mk (show Kd.R (Kd.int .i64) 2 _ _ _ _ (rd_L1 t219 x11_2) from ge239_0)
                               clear hv239_0 ge239_0
                               clear hcc239 hce239
                               have HR239_0 := Aside0.mk hi239_0
                               have HC239_0 := Aside0.mk hl239_0
                               clear hi239_0 hl239_0
                               replace p239 := eq_true p239
                               replace q239 := eq_true q239
                               have ea_ := Option.some.inj (hx237_0.symm.trans hx239_0)
                               injection ea_ with ea_ en_ ec_
                               subst ea_
                               subst ec_
                               clear en_
                               have p240 : 0 ≤ (x12_4 : Int) := of_decide_eq_true (by first | (with_reducible assumption) | assumption)
                               have q240 : x12_4 < ((rd_L1 t219 x11_2).length : Int) := of_decide_eq_true (by first | (with_reducible assumption) | assumption)
                               obtain ⟨ad240, e240, hx240_0⟩ := Kd.at_int (by repeat (first | (with_reducible exact HR239_0.out) | (with_reducible refine Kd.C_alloc ?_ _) | (with_reducible refine Kd.C_drewN ?_ _) | (with_reducible refine Kd.C_drew ?_) | exact HR239_0.out)) x12_4 p240 q240
                               cases e240
                               replace p240 := eq_true p240
                               replace q240 := eq_true q240
                               go_wp2
                               repeat (go_quiet (fail); try go_wp2)
                               go_roundg k5
                               case measure => have := HK1.out; have := HK2.out; have := HJ33.out; have := HK4.out; have := HK5.out; omega
                               case rel => exact ⟨(wrap64 (x13_5 + 1)), (by first | rfl | (simp; done) | (simp [*]; done)), H', ⟨by have := HK1.out; have := HK2.out; have := HJ33.out; have := HK4.out; have := HK5.out; omega⟩, ⟨by (with_reducible repeat (first | apply Kd.S_alloc | apply Kd.S_drewN | apply Kd.S_drew)); exact HO_3.out⟩, ⟨by (with_reducible repeat (first | apply Kd.S_alloc | apply Kd.S_drewN | apply Kd.S_drew)); exact HO_5.out⟩, ⟨by repeat (first | (with_reducible exact HR236_0.out) | (with_reducible refine Kd.C_alloc ?_ _) | (with_reducible refine Kd.C_drewN ?_ _) | (with_reducible refine Kd.C_drew ?_) | exact HR236_0.out)⟩, ⟨by repeat (first | (with_reducible first | exact HB.out | apply below_alloc | apply pw_below_drewN | apply below_drew1) | exact HB.out)⟩⟩
                             ·rw [if_neg c51] at H
                              exact absurd H (by simp)
                            ·rw [if_neg c50] at H
                             exact absurd H (by simp)
                           ·rw [if_neg c49] at H
                            exact absurd H (by simp)
                          ·rw [if_neg c48] at H
                           exact absurd H (by simp)
                         ·rw [if_neg c47] at H
                          exact absurd H (by simp)
                        ·rw [if_neg c46] at H
                         exact absurd H (by simp)
                       ·rw [if_neg c45] at H
                        have c45b0 : decide (x13_5 < x12_4) = false := decide_eq_false c45
                        clear c45
                        have H' := Aside0.mk H
                        clear H
                        go_wp2
                        repeat (go_quiet (fail); try go_wp2)
                        go_roundg k5
                        case measure => have := HK1.out; have := HK2.out; have := HJ33.out; have := HK4.out; have := HK5.out; omega
                        case rel => exact ⟨(wrap64 (x12_4 + 1)), (by first | rfl | (simp; done) | (simp [*]; done)), H', ⟨by have := HK1.out; have := HK2.out; have := HJ33.out; have := HK4.out; have := HK5.out; omega⟩, ⟨by (with_reducible repeat (first | apply Kd.S_alloc | apply Kd.S_drewN | apply Kd.S_drew)); exact HO_3.out⟩, ⟨by (with_reducible repeat (first | apply Kd.S_alloc | apply Kd.S_drewN | apply Kd.S_drew)); exact HO_5.out⟩, ⟨by repeat (first | (with_reducible first | exact HB.out | apply below_alloc | apply pw_below_drewN | apply below_drew1) | exact HB.out)⟩⟩
                    ·rw [if_neg c44] at H
                     have c44b0 : decide (x12_4 < ((rd_L1 t219 x11_2).length : Int)) = false := decide_eq_false c44
                     clear c44
                     have H' := Aside0.mk H
                     clear H
                     have p236 : 0 ≤ (x11_2 : Int) := of_decide_eq_true (by first | (with_reducible assumption) | assumption)
                     have q236 : x11_2 < (t219.length : Int) := of_decide_eq_true (by first | (with_reducible assumption) | assumption)
                     obtain ⟨ad236, A236_0, c236_0, e236, hx236_0, hl236_0, hi236_0⟩ := at_L1 (Kd.S_reads' HO_5.out).2.2 x11_2 p236 q236
                     cases e236
                     obtain ⟨ce236, hce236, hMe236, hcc236⟩ := Kd.S_get HO_5.out [] x11_2 p236 (by first | exact q236 | exact of_decide_eq_true (by first | (with_reducible assumption) | assumption) | (have e_ := (Kd.S_reads' HO_5.out).1; omega))
                     obtain ⟨ve236_0, rfl, ge236_0⟩ := hMe236
                     have hv236_0 := hcc236 0 _ rfl
                     rw [Nat.add_zero, show ((Kd.slice 2 (Kd.int .i64))).sz = 1 from rfl, Nat.mul_one] at hv236_0
                     replace hv236_0 := Option.some.inj (hv236_0.symm.trans hx236_0)
                     rw [hv236_0] at ge236_0
                     have HL236_0 := Aside0.mk (show Kd.R (Kd.int .i64) 2 _ _ _ _ (rd_L1 t219 x11_2) from ge236_0)
                     clear hv236_0 ge236_0
                     clear hcc236 hce236
                     have HR236_0 := Aside0.mk hi236_0
                     have HC236_0 := Aside0.mk hl236_0
                     clear hi236_0 hl236_0
                     replace p236 := eq_true p236
                     replace q236 := eq_true q236
                     go_wp2
                     repeat (go_quiet (fail); try go_wp2)
                     go_loopg [14] k4 (fun kq v14 w' => ∃ (x14_5 : Int), v14 = .int .i64 x14_5 ∧ Aside0 (laws_FnLines.l5 kq t213 t219 x11_2 x14_5 = some r) ∧ Aside0 (kq ≤ k4) ∧ Aside0 (Kd.S k41 41 w' w.heap.size (fun _ => True) (.slice Ao11 t213.length co11) t213) ∧ Aside0 (Kd.S (Kd.slice 2 (Kd.int .i64)) 37 w' w.heap.size (fun _ => True) (.slice (some ad236) t219.length co32) t219) ∧ Aside0 (Kd.C (Kd.int .i64) w' A236_0 (rd_L1 t219 x11_2).length (rd_L1 t219 x11_2)) ∧ Aside0 (Below w.heap.size w w'))
                     case atStart => exact ⟨(0), (by first | rfl | (simp; done) | (simp [*]; done)), H', ⟨Nat.le_refl _⟩, ⟨by (with_reducible repeat (first | apply Kd.S_alloc | apply Kd.S_drewN | apply Kd.S_drew)); exact HO_3.out⟩, ⟨by (with_reducible repeat (first | apply Kd.S_alloc | apply Kd.S_drewN | apply Kd.S_drew)); exact HO_5.out⟩, ⟨by repeat (first | (with_reducible exact HR236_0.out) | (with_reducible refine Kd.C_alloc ?_ _) | (with_reducible refine Kd.C_drewN ?_ _) | (with_reducible refine Kd.C_drew ?_) | exact HR236_0.out)⟩, ⟨by repeat (first | (with_reducible first | exact HB.out | apply below_alloc | apply pw_below_drewN | apply below_drew1) | exact HB.out)⟩⟩
                     case round =>
                      clear H'
                      try clear c1
                      try clear q1
                      try clear c2
                      try clear p2
                      try clear q2
                      try clear hx2
                      try clear qi2
                      try clear c3
                      try clear c4
                      try clear c5
                      try clear p6
                      try clear c8
                      try clear c9
                      try clear c9b0
                      try clear c9b1
                      try clear c9b2
                      try clear c15
                      try clear c15b0
                      try clear c16
                      try clear c16b0
                      try clear c17
                      try clear c17b0
                      try clear q18
                      try clear c19
                      try clear c20
                      try clear c20b0
                      try clear c20b1
                      try clear c21
                      try clear c21b0
                      try clear p22
                      try clear q22
                      try clear hx22
                      try clear c23
                      try clear p23
                      try clear q23
                      try clear hx23
                      try clear qi23
                      try clear c24
                      try clear c24b0
                      try clear p24
                      try clear q24
                      try clear hx24
                      try clear c25
                      try clear c25b0
                      try clear c26
                      try clear c26b0
                      try clear c27
                      try clear c27b0
                      try clear c28
                      try clear c28b0
                      try clear c28b1
                      try clear c28b2
                      try clear c31
                      try clear c31b0
                      try clear c31b1
                      try clear c31b2
                      try clear c33
                      try clear c33b0
                      try clear c35
                      try clear c35b0
                      try clear c36
                      try clear c36b0
                      try clear c37
                      try clear c37b0
                      try clear c37b1
                      try clear c37b2
                      try clear c38
                      try clear c38b0
                      try clear c38b1
                      try clear c39
                      try clear c39b0
                      try clear c39b1
                      try clear c41
                      try clear c42
                      try clear c42b0
                      try clear c43
                      try clear c43b0
                      try clear c44
                      try clear c44b0
                      try clear c45
                      try clear c45b0
                      try clear c46
                      try clear c46b0
                      try clear c47
                      try clear c47b0
                      try clear c48
                      try clear c48b0
                      try clear c49
                      try clear c49b0
                      try clear c50
                      try clear c50b0
                      try clear c51
                      try clear c51b0
                      try clear c52
                      try clear c52b0
                      try clear c52b1
                      try clear hx224_0
                      try clear hx228_0
                      try clear hx229_0
                      try clear hx230_0
                      try clear hx231_0
                      try clear hx232_0
                      try clear hx233_0
                      try clear hx233_1
                      try clear hx234_0
                      try clear hx236_0
                      try clear hx237_0
                      try clear hx238_0
                      try clear hx239_0
                      try clear hx240_0
                      try clear p2
                      try clear p22
                      try clear p224
                      try clear p228
                      try clear p229
                      try clear p23
                      try clear p230
                      try clear p231
                      try clear p232
                      try clear p233
                      try clear p234
                      try clear p236
                      try clear p237
                      try clear p238
                      try clear p239
                      try clear p240
                      try clear p6
                      try clear q1
                      try clear q18
                      try clear q2
                      try clear q22
                      try clear q224
                      try clear q228
                      try clear q229
                      try clear q23
                      try clear q230
                      try clear q231
                      try clear q232
                      try clear q233
                      try clear q234
                      try clear q236
                      try clear q237
                      try clear q238
                      try clear q239
                      try clear q240
                      obtain ⟨x14_5, rfl, HA, HK5, HO_3, HO_5, HR236_0, HB⟩ := hrel
                      cases gk with
                      | zero => exact absurd HA.out (by simp [laws_FnLines.l5])
                      | succ k5 =>
                       have H := HA.out
                       clear HA
                       simp only [laws_FnLines.l5] at H
                       by_cases c53 : 0 ≤ x11_2
                       ·rw [if_pos c53] at H
                        have c53b0 : decide (0 ≤ x11_2) = true := decide_eq_true c53
                        clear c53
                        by_cases c54 : x11_2 < (t213.length : Int)
                        ·rw [if_pos c54] at H
                         have c54b0 : decide (x11_2 < (t213.length : Int)) = true := decide_eq_true c54
                         clear c54
                         by_cases c55 : x14_5 < (((rd_T41 t213 x11_2).f0).length : Int)
                         ·rw [if_pos c55] at H
                          have c55b0 : decide (x14_5 < (((rd_T41 t213 x11_2).f0).length : Int)) = true := decide_eq_true c55
                          clear c55
                          by_cases c56 : 0 ≤ x14_5
                          ·rw [if_pos c56] at H
                           have c56b0 : decide (0 ≤ x14_5) = true := decide_eq_true c56
                           clear c56
                           by_cases c57 : 0 ≤ (rd ((rd_T41 t213 x11_2).f0) x14_5)
                           ·rw [if_pos c57] at H
                            have c57b0 : decide (0 ≤ (rd ((rd_T41 t213 x11_2).f0) x14_5)) = true := decide_eq_true c57
                            clear c57
                            by_cases c58 : (rd ((rd_T41 t213 x11_2).f0) x14_5) < (t219.length : Int)
                            ·rw [if_pos c58] at H
                             have c58b0 : decide ((rd ((rd_T41 t213 x11_2).f0) x14_5) < (t219.length : Int)) = true := decide_eq_true c58
                             clear c58
                             by_cases c59 : x11_2 < (t219.length : Int)
                             ·rw [if_pos c59] at H
                              have c59b0 : decide (x11_2 < (t219.length : Int)) = true := decide_eq_true c59
                              clear c59
                              replace H := Option.bind_eq_some_iff.mp H
                              obtain ⟨t246, A600, H⟩ := H
                              replace H : (if t246 = true then (laws_FnLines.l5 k5 t213 t219 x11_2 (wrap64 (x14_5 + 1))) else (none)) = some r := H
                              have A60 := Aside0.mk A600
                              clear A600
                              by_cases c61 : t246 = true
                              ·subst c61
                               have H1 : (laws_FnLines.l5 k5 t213 t219 x11_2 (wrap64 (x14_5 + 1))) = some r := by rw [if_pos rfl] at H; exact H
                               clear H
                               have H := H1
                               clear H1
                               have H' := Aside0.mk H
                               clear H
                               have p241 : 0 ≤ (x11_2 : Int) := of_decide_eq_true (by first | (with_reducible assumption) | assumption)
                               have q241 : x11_2 < (t213.length : Int) := of_decide_eq_true (by first | (with_reducible assumption) | assumption)
                               obtain ⟨ad241, A241_0, c241_0, A241_1, c241_1, e241, hx241_0, hx241_1, hl241_0, hi241_0, hl241_1, hi241_1⟩ := at_T41 (Kd.S_reads' HO_3.out).2.2 x11_2 p241 q241
                               cases e241
                               obtain ⟨ce241, hce241, hMe241, hcc241⟩ := Kd.S_get HO_3.out z41 x11_2 p241 (by first | exact q241 | exact of_decide_eq_true (by first | (with_reducible assumption) | assumption) | (have e_ := (Kd.S_reads' HO_3.out).1; omega))
                               obtain ⟨ve241_0, ve241_1, rfl, ge241_0, ge241_1⟩ := k41_openM hMe241
                               have hv241_0 := hcc241 0 _ rfl
                               rw [Nat.add_zero] at hv241_0
                               replace hv241_0 := Option.some.inj (hv241_0.symm.trans hx241_0)
                               rw [hv241_0] at ge241_0
                               have HL241_0 := Aside0.mk (show Kd.R (Kd.int .i64) 2 _ _ _ _ ((rd_T41 t213 x11_2).f0) from ge241_0)
                               clear hv241_0 ge241_0
                               have hv241_1 := hcc241 1 _ rfl
                               rw [add_field _ _ 1 (by omega)] at hv241_1
                               replace hv241_1 := Option.some.inj (hv241_1.symm.trans hx241_1)
                               rw [hv241_1] at ge241_1
                               have HL241_1 := Aside0.mk (show Kd.R k48 48 _ _ _ _ ((rd_T41 t213 x11_2).f1) from ge241_1)
                               clear hv241_1 ge241_1
                               clear hcc241 hce241
                               have HR241_0 := Aside0.mk hi241_0
                               have HC241_0 := Aside0.mk hl241_0
                               clear hi241_0 hl241_0
                               have HR241_1 := Aside0.mk hi241_1
                               have HC241_1 := Aside0.mk hl241_1
                               clear hi241_1 hl241_1
                               replace p241 := eq_true p241
                               replace q241 := eq_true q241
                               have p242 : 0 ≤ (x11_2 : Int) := of_decide_eq_true (by first | (with_reducible assumption) | assumption)
                               have q242 : x11_2 < (t213.length : Int) := of_decide_eq_true (by first | (with_reducible assumption) | assumption)
                               obtain ⟨ad242, A242_0, c242_0, A242_1, c242_1, e242, hx242_0, hx242_1, hl242_0, hi242_0, hl242_1, hi242_1⟩ := at_T41 (Kd.S_reads' HO_3.out).2.2 x11_2 p242 q242
                               obtain rfl : ad241 = ad242 := (by injection e242)
                               obtain ⟨ce242, hce242, hMe242, hcc242⟩ := Kd.S_get HO_3.out z41 x11_2 p242 (by first | exact q242 | exact of_decide_eq_true (by first | (with_reducible assumption) | assumption) | (have e_ := (Kd.S_reads' HO_3.out).1; omega))
                               obtain ⟨ve242_0, ve242_1, rfl, ge242_0, ge242_1⟩ := k41_openM hMe242
                               have hv242_0 := hcc242 0 _ rfl
                               rw [Nat.add_zero] at hv242_0
                               replace hv242_0 := Option.some.inj (hv242_0.symm.trans hx242_0)
                               rw [hv242_0] at ge242_0
                               have HL242_0 := Aside0.mk (show Kd.R (Kd.int .i64) 2 _ _ _ _ ((rd_T41 t213 x11_2).f0) from ge242_0)
                               clear hv242_0 ge242_0
                               have hv242_1 := hcc242 1 _ rfl
                               rw [add_field _ _ 1 (by omega)] at hv242_1
                               replace hv242_1 := Option.some.inj (hv242_1.symm.trans hx242_1)
                               rw [hv242_1] at ge242_1
                               have HL242_1 := Aside0.mk (show Kd.R k48 48 _ _ _ _ ((rd_T41 t213 x11_2).f1) from ge242_1)
                               clear hv242_1 ge242_1
                               clear hcc242 hce242
                               have HR242_0 := Aside0.mk hi242_0
                               have HC242_0 := Aside0.mk hl242_0
                               clear hi242_0 hl242_0
                               have HR242_1 := Aside0.mk hi242_1
                               have HC242_1 := Aside0.mk hl242_1
                               clear hi242_1 hl242_1
                               replace p242 := eq_true p242
                               replace q242 := eq_true q242
                               have ea_ := Option.some.inj (hx241_0.symm.trans hx242_0)
                               injection ea_ with ea_ en_ ec_
                               subst ea_
                               subst ec_
                               clear en_
                               have ea_ := Option.some.inj (hx241_1.symm.trans hx242_1)
                               injection ea_ with ea_ en_ ec_
                               subst ea_
                               subst ec_
                               clear en_
                               have p243 : 0 ≤ (x14_5 : Int) := of_decide_eq_true (by first | (with_reducible assumption) | assumption)
                               have q243 : x14_5 < (((rd_T41 t213 x11_2).f0).length : Int) := of_decide_eq_true (by first | (with_reducible assumption) | assumption)
                               obtain ⟨ad243, e243, hx243_0⟩ := Kd.at_int (by repeat (first | (with_reducible exact HR242_0.out) | (with_reducible refine Kd.C_alloc ?_ _) | (with_reducible refine Kd.C_drewN ?_ _) | (with_reducible refine Kd.C_drew ?_) | exact HR242_0.out)) x14_5 p243 q243
                               cases e243
                               replace p243 := eq_true p243
                               replace q243 := eq_true q243
                               have p244 : 0 ≤ ((rd ((rd_T41 t213 x11_2).f0) x14_5) : Int) := of_decide_eq_true (by first | (with_reducible assumption) | assumption)
                               have q244 : (rd ((rd_T41 t213 x11_2).f0) x14_5) < (t219.length : Int) := of_decide_eq_true (by first | (with_reducible assumption) | assumption)
                               obtain ⟨ad244, A244_0, c244_0, e244, hx244_0, hl244_0, hi244_0⟩ := at_L1 (Kd.S_reads' HO_5.out).2.2 (rd ((rd_T41 t213 x11_2).f0) x14_5) p244 q244
                               obtain rfl : ad236 = ad244 := (by injection e244)
                               obtain ⟨ce244, hce244, hMe244, hcc244⟩ := Kd.S_get HO_5.out [] (rd ((rd_T41 t213 x11_2).f0) x14_5) p244 (by first | exact q244 | exact of_decide_eq_true (by first | (with_reducible assumption) | assumption) | (have e_ := (Kd.S_reads' HO_5.out).1; omega))
                               obtain ⟨ve244_0, rfl, ge244_0⟩ := hMe244
                               have hv244_0 := hcc244 0 _ rfl
                               rw [Nat.add_zero, show ((Kd.slice 2 (Kd.int .i64))).sz = 1 from rfl, Nat.mul_one] at hv244_0
                               replace hv244_0 := Option.some.inj (hv244_0.symm.trans hx244_0)
                               rw [hv244_0] at ge244_0
                               have HL244_0 := Aside0.mk (show Kd.R (Kd.int .i64) 2 _ _ _ _ (rd_L1 t219 (rd ((rd_T41 t213 x11_2).f0) x14_5)) from ge244_0)
                               clear hv244_0 ge244_0
                               clear hcc244 hce244
                               have HR244_0 := Aside0.mk hi244_0
                               have HC244_0 := Aside0.mk hl244_0
                               clear hi244_0 hl244_0
                               replace p244 := eq_true p244
                               replace q244 := eq_true q244
                               have p245 : 0 ≤ (x11_2 : Int) := of_decide_eq_true (by first | (with_reducible assumption) | assumption)
                               have q245 : x11_2 < (t219.length : Int) := of_decide_eq_true (by first | (with_reducible assumption) | assumption)
                               obtain ⟨ad245, A245_0, c245_0, e245, hx245_0, hl245_0, hi245_0⟩ := at_L1 (Kd.S_reads' HO_5.out).2.2 x11_2 p245 q245
                               obtain rfl : ad236 = ad245 := (by injection e245)
                               obtain ⟨ce245, hce245, hMe245, hcc245⟩ := Kd.S_get HO_5.out [] x11_2 p245 (by first | exact q245 | exact of_decide_eq_true (by first | (with_reducible assumption) | assumption) | (have e_ := (Kd.S_reads' HO_5.out).1; omega))
                               obtain ⟨ve245_0, rfl, ge245_0⟩ := hMe245
                               have hv245_0 := hcc245 0 _ rfl
                               rw [Nat.add_zero, show ((Kd.slice 2 (Kd.int .i64))).sz = 1 from rfl, Nat.mul_one] at hv245_0
                               replace hv245_0 := Option.some.inj (hv245_0.symm.trans hx245_0)
                               rw [hv245_0] at ge245_0
                               have HL245_0 := Aside0.mk (show Kd.R (Kd.int .i64) 2 _ _ _ _ (rd_L1 t219 x11_2) from ge245_0)
                               clear hv245_0 ge245_0
                               clear hcc245 hce245
                               have HR245_0 := Aside0.mk hi245_0
                               have HC245_0 := Aside0.mk hl245_0
                               clear hi245_0 hl245_0
                               replace p245 := eq_true p245
                               replace q245 := eq_true q245
                               go_wp2_with (first | (go_at_call 20; (with_reducible refine (laws_within.calls k5 _ _ (rd_L1 t219 (rd ((rd_T41 t213 x11_2).f0) x14_5)) _ _ (rd_L1 t219 x11_2) true _ ?side1 ?side2 ?side3 ?side4 A60.out).mono ?_); (case side1 => repeat (first | exact (by repeat (first | (with_reducible exact HR244_0.out) | (with_reducible refine Kd.C_alloc ?_ _) | (with_reducible refine Kd.C_drewN ?_ _) | (with_reducible refine Kd.C_drew ?_) | exact HR244_0.out)) | (with_reducible refine Kd.C_alloc ?_ _) | (with_reducible refine Kd.C_drewN ?_ _) | (with_reducible refine Kd.C_drew ?_))); (case side2 => exact HC244_0.out); (case side3 => repeat (first | exact (by repeat (first | (with_reducible exact HR245_0.out) | (with_reducible refine Kd.C_alloc ?_ _) | (with_reducible refine Kd.C_drewN ?_ _) | (with_reducible refine Kd.C_drew ?_) | exact HR245_0.out)) | (with_reducible refine Kd.C_alloc ?_ _) | (with_reducible refine Kd.C_drewN ?_ _) | (with_reducible refine Kd.C_drew ?_))); (case side4 => exact HC245_0.out); rintro e w' ⟨rfl, ⟨nd, rfl⟩⟩; (try first | exact ⟨rfl, _, World.drewN_drewN _ _ _⟩ | exact ⟨rfl, _, Eq.trans (World.drewN_drewN _ _ _) (congrArg (World.drewN _) (Nat.add_assoc _ _ _))⟩)))
                               repeat (go_quiet (first | (go_at_call 20; (with_reducible refine (laws_within.calls k5 _ _ (rd_L1 t219 (rd ((rd_T41 t213 x11_2).f0) x14_5)) _ _ (rd_L1 t219 x11_2) true _ ?side1 ?side2 ?side3 ?side4 A60.out).mono ?_); (case side1 => repeat (first | exact (by repeat (first | (with_reducible exact HR244_0.out) | (with_reducible refine Kd.C_alloc ?_ _) | (with_reducible refine Kd.C_drewN ?_ _) | (with_reducible refine Kd.C_drew ?_) | exact HR244_0.out)) | (with_reducible refine Kd.C_alloc ?_ _) | (with_reducible refine Kd.C_drewN ?_ _) | (with_reducible refine Kd.C_drew ?_))); (case side2 => exact HC244_0.out); (case side3 => repeat (first | exact (by repeat (first | (with_reducible exact HR245_0.out) | (with_reducible refine Kd.C_alloc ?_ _) | (with_reducible refine Kd.C_drewN ?_ _) | (with_reducible refine Kd.C_drew ?_) | exact HR245_0.out)) | (with_reducible refine Kd.C_alloc ?_ _) | (with_reducible refine Kd.C_drewN ?_ _) | (with_reducible refine Kd.C_drew ?_))); (case side4 => exact HC245_0.out); rintro e w' ⟨rfl, ⟨nd, rfl⟩⟩; (try first | exact ⟨rfl, _, World.drewN_drewN _ _ _⟩ | exact ⟨rfl, _, Eq.trans (World.drewN_drewN _ _ _) (congrArg (World.drewN _) (Nat.add_assoc _ _ _))⟩))); try go_wp2_with (first | (go_at_call 20; (with_reducible refine (laws_within.calls k5 _ _ (rd_L1 t219 (rd ((rd_T41 t213 x11_2).f0) x14_5)) _ _ (rd_L1 t219 x11_2) true _ ?side1 ?side2 ?side3 ?side4 A60.out).mono ?_); (case side1 => repeat (first | exact (by repeat (first | (with_reducible exact HR244_0.out) | (with_reducible refine Kd.C_alloc ?_ _) | (with_reducible refine Kd.C_drewN ?_ _) | (with_reducible refine Kd.C_drew ?_) | exact HR244_0.out)) | (with_reducible refine Kd.C_alloc ?_ _) | (with_reducible refine Kd.C_drewN ?_ _) | (with_reducible refine Kd.C_drew ?_))); (case side2 => exact HC244_0.out); (case side3 => repeat (first | exact (by repeat (first | (with_reducible exact HR245_0.out) | (with_reducible refine Kd.C_alloc ?_ _) | (with_reducible refine Kd.C_drewN ?_ _) | (with_reducible refine Kd.C_drew ?_) | exact HR245_0.out)) | (with_reducible refine Kd.C_alloc ?_ _) | (with_reducible refine Kd.C_drewN ?_ _) | (with_reducible refine Kd.C_drew ?_))); (case side4 => exact HC245_0.out); rintro e w' ⟨rfl, ⟨nd, rfl⟩⟩; (try first | exact ⟨rfl, _, World.drewN_drewN _ _ _⟩ | exact ⟨rfl, _, Eq.trans (World.drewN_drewN _ _ _) (congrArg (World.drewN _) (Nat.add_assoc _ _ _))⟩))))
                               go_roundg k5
                               case measure => have := HK1.out; have := HK2.out; have := HJ33.out; have := HK4.out; have := HK5.out; omega
                               case rel => exact ⟨(wrap64 (x14_5 + 1)), (by first | rfl | (simp; done) | (simp [*]; done)), H', ⟨by have := HK1.out; have := HK2.out; have := HJ33.out; have := HK4.out; have := HK5.out; omega⟩, ⟨by (with_reducible repeat (first | apply Kd.S_alloc | apply Kd.S_drewN | apply Kd.S_drew)); exact HO_3.out⟩, ⟨by (with_reducible repeat (first | apply Kd.S_alloc | apply Kd.S_drewN | apply Kd.S_drew)); exact HO_5.out⟩, ⟨by repeat (first | (with_reducible exact HR236_0.out) | (with_reducible refine Kd.C_alloc ?_ _) | (with_reducible refine Kd.C_drewN ?_ _) | (with_reducible refine Kd.C_drew ?_) | exact HR236_0.out)⟩, ⟨by repeat (first | (with_reducible first | exact HB.out | apply below_alloc | apply pw_below_drewN | apply below_drew1) | exact HB.out)⟩⟩
                              ·replace c61 := Bool.eq_false_iff.mpr c61
                               subst c61
                               have H1 : (none) = some r := by rw [if_neg (show ¬ (false = true) by decide)] at H; exact H
                               clear H
                               have H := H1
                               clear H1
                               exact absurd H (by simp)
                             ·rw [if_neg c59] at H
                              exact absurd H (by simp)
                            ·rw [if_neg c58] at H
                             exact absurd H (by simp)
                           ·rw [if_neg c57] at H
                            exact absurd H (by simp)
                          ·rw [if_neg c56] at H
                           exact absurd H (by simp)
                         ·rw [if_neg c55] at H
                          have c55b0 : decide (x14_5 < (((rd_T41 t213 x11_2).f0).length : Int)) = false := decide_eq_false c55
                          clear c55
                          have H' := Aside0.mk H
                          clear H
                          have p241 : 0 ≤ (x11_2 : Int) := of_decide_eq_true (by first | (with_reducible assumption) | assumption)
                          have q241 : x11_2 < (t213.length : Int) := of_decide_eq_true (by first | (with_reducible assumption) | assumption)
                          obtain ⟨ad241, A241_0, c241_0, A241_1, c241_1, e241, hx241_0, hx241_1, hl241_0, hi241_0, hl241_1, hi241_1⟩ := at_T41 (Kd.S_reads' HO_3.out).2.2 x11_2 p241 q241
                          cases e241
                          obtain ⟨ce241, hce241, hMe241, hcc241⟩ := Kd.S_get HO_3.out z41 x11_2 p241 (by first | exact q241 | exact of_decide_eq_true (by first | (with_reducible assumption) | assumption) | (have e_ := (Kd.S_reads' HO_3.out).1; omega))
                          obtain ⟨ve241_0, ve241_1, rfl, ge241_0, ge241_1⟩ := k41_openM hMe241
                          have hv241_0 := hcc241 0 _ rfl
                          rw [Nat.add_zero] at hv241_0
                          replace hv241_0 := Option.some.inj (hv241_0.symm.trans hx241_0)
                          rw [hv241_0] at ge241_0
                          have HL241_0 := Aside0.mk (show Kd.R (Kd.int .i64) 2 _ _ _ _ ((rd_T41 t213 x11_2).f0) from ge241_0)
                          clear hv241_0 ge241_0
                          have hv241_1 := hcc241 1 _ rfl
                          rw [add_field _ _ 1 (by omega)] at hv241_1
                          replace hv241_1 := Option.some.inj (hv241_1.symm.trans hx241_1)
                          rw [hv241_1] at ge241_1
                          have HL241_1 := Aside0.mk (show Kd.R k48 48 _ _ _ _ ((rd_T41 t213 x11_2).f1) from ge241_1)
                          clear hv241_1 ge241_1
                          clear hcc241 hce241
                          have HR241_0 := Aside0.mk hi241_0
                          have HC241_0 := Aside0.mk hl241_0
                          clear hi241_0 hl241_0
                          have HR241_1 := Aside0.mk hi241_1
                          have HC241_1 := Aside0.mk hl241_1
                          clear hi241_1 hl241_1
                          replace p241 := eq_true p241
                          replace q241 := eq_true q241
                          go_wp2
                          repeat (go_quiet (fail); try go_wp2)
                          go_roundg k5
                          case measure => have := HK1.out; have := HK2.out; have := HJ33.out; have := HK4.out; have := HK5.out; omega
                          case rel => exact ⟨(wrap64 (x11_2 + 1)), (by first | rfl | (simp; done) | (simp [*]; done)), H', ⟨by have := HK1.out; have := HK2.out; have := HJ33.out; have := HK4.out; have := HK5.out; omega⟩, ⟨by (with_reducible repeat (first | apply Kd.S_alloc | apply Kd.S_drewN | apply Kd.S_drew)); exact HO_3.out⟩, ⟨by (with_reducible repeat (first | apply Kd.S_alloc | apply Kd.S_drewN | apply Kd.S_drew)); exact HO_5.out⟩, ⟨by repeat (first | (with_reducible first | exact HB.out | apply below_alloc | apply pw_below_drewN | apply below_drew1) | exact HB.out)⟩⟩
                        ·rw [if_neg c54] at H
                         exact absurd H (by simp)
                       ·rw [if_neg c53] at H
                        exact absurd H (by simp)
                   ·rw [if_neg c43] at H
                    exact absurd H (by simp)
                  ·rw [if_neg c42] at H
                   exact absurd H (by simp)
            ·rw [if_neg c33] at H
             have c33b0 : decide (x11_2 < (t213.length : Int)) = false := decide_eq_false c33
             clear c33
             obtain rfl := Option.some.inj H
             go_wp2
             repeat (go_quiet (fail); try go_wp2)
             go_ret
             exact ⟨by first | rfl | (simp [errW_none, errW_some] <;> rfl) | (simp [*, errW_none, errW_some] <;> rfl), by repeat (first | (with_reducible first | exact HB.out | apply below_alloc | apply pw_below_drewN | apply below_drew1) | exact HB.out)⟩
         ·rw [if_neg c31] at H
          exact absurd H (by simp)
       ·rw [if_neg c20] at H
        exact absurd H (by simp)
   ·rw [if_neg c9] at H
    exact absurd H (by simp)
  ·replace c8 := Bool.eq_false_iff.mpr c8
   subst c8
   have H1 : (if t220 = (-2) then (if (t219.length : Int) = 0 then (some ((t216.length : Int) == 0)) else (none)) else (none)) = some r := by rw [if_neg (show ¬ (false = true) by decide)] at H; exact H
   clear H
   have H := H1
   clear H1
   by_cases c62 : t220 = (-2)
   ·rw [if_pos c62] at H
    have c62b0 : (t220 == (-2)) = true := beq_iff_eq.mpr c62
    have c62b1 : (t220 != (-2)) = false := bne_eq_false_iff_eq.mpr c62
    clear c62
    by_cases c63 : (t219.length : Int) = 0
    ·rw [if_pos c63] at H
     have c63b0 : ((t219.length : Int) == 0) = true := beq_iff_eq.mpr c63
     have c63b1 : ((t219.length : Int) != 0) = false := bne_eq_false_iff_eq.mpr c63
     clear c63
     obtain rfl := Option.some.inj H
     go_enter Try.func4, Try.ntmps4
     go_wp2_with (first | (go_at_call 15; (with_reducible refine (laws_big.calls _ _ l0 false _ ?side1 ?side2 A2.out).mono ?_); (case side1 => repeat (first | exact HR0.out | (with_reducible refine Kd.C_alloc ?_ _) | (with_reducible refine Kd.C_drewN ?_ _) | (with_reducible refine Kd.C_drew ?_))); (case side2 => exact HC0.out); rintro e w' ⟨rfl, ⟨nd, rfl⟩⟩; (try first | exact ⟨rfl, _, World.drewN_drewN _ _ _⟩ | exact ⟨rfl, _, Eq.trans (World.drewN_drewN _ _ _) (congrArg (World.drewN _) (Nat.add_assoc _ _ _))⟩)) | (go_at_call 16; (with_reducible refine (spec_DrawMro.calls k _ _ l0 t213 _ ?side1 ?side2 A4.out).mono ?_); (case side1 => repeat (first | exact HR0.out | (with_reducible refine Kd.C_alloc ?_ _) | (with_reducible refine Kd.C_drewN ?_ _) | (with_reducible refine Kd.C_drew ?_))); (case side2 => exact HC0.out); rintro e w64 ⟨v214, rfl, ho0, hb⟩; have n0_ := Aside0.mk (Kd.S_lower ho0 (below_size (by repeat (first | (with_reducible first | exact HB.out | apply below_alloc | apply pw_below_drewN | apply below_drew1) | exact HB.out)))); have n1_ := Aside0.mk (below_step (by repeat (first | (with_reducible first | exact HB.out | apply below_alloc | apply pw_below_drewN | apply below_drew1) | exact HB.out)) hb); clear HB; have HO215 := n0_; have HB := n1_; clear n0_ n1_; (try clear hb); (try clear hb2); (try clear hk); (try clear hi); (try clear ho0); obtain ⟨Ao65, co65, eo65⟩ := Kd.S_slice HO215.out; subst eo65) | (go_at_call 17; (with_reducible refine (impl_MroFits.calls _ _ t213 t216 _ ?side1 ?side2 A5.out).mono ?_); (case side1 => repeat (first | exact (Kd.S_reads' HO215.out).2.2 | (with_reducible refine Kd.C_alloc ?_ _) | (with_reducible refine Kd.C_drewN ?_ _) | (with_reducible refine Kd.C_drew ?_))); (case side2 => exact (Kd.S_reads' HO215.out).2.1); rintro e w66 ⟨v217, rfl, ho0, hb⟩; have n0_ := Aside0.mk (Kd.S_below (by (with_reducible repeat (first | apply Kd.S_alloc | apply Kd.S_drewN | apply Kd.S_drew)); exact HO215.out) hb); have n1_ := Aside0.mk (Kd.R_lower ho0 (below_size (by repeat (first | (with_reducible first | exact HB.out | apply below_alloc | apply pw_below_drewN | apply below_drew1) | exact HB.out)))); have n2_ := Aside0.mk (below_step (by repeat (first | (with_reducible first | exact HB.out | apply below_alloc | apply pw_below_drewN | apply below_drew1) | exact HB.out)) hb); clear HO215; clear HB; have HO215 := n0_; have HO218 := n1_; have HB := n2_; clear n0_ n1_ n2_; (try clear hb); (try clear hb2); (try clear hk); (try clear hi); (try clear ho0)) | (go_at_call 18; (with_reducible refine (impl_Mro.calls _ _ t213 t219 t220 _ ?side1 ?side2 A6.out).mono ?_); (case side1 => repeat (first | exact (Kd.S_reads' HO215.out).2.2 | (with_reducible refine Kd.C_alloc ?_ _) | (with_reducible refine Kd.C_drewN ?_ _) | (with_reducible refine Kd.C_drew ?_))); (case side2 => exact (Kd.S_reads' HO215.out).2.1); rintro e w67 ⟨v221, rfl, ho0, hb⟩; have n0_ := Aside0.mk (Kd.S_below (by (with_reducible repeat (first | apply Kd.S_alloc | apply Kd.S_drewN | apply Kd.S_drew)); exact HO215.out) hb); have n1_ := Aside0.mk (Kd.R_below (by (with_reducible repeat (first | apply Kd.R_alloc | apply Kd.R_drewN | apply Kd.R_drew)); exact HO218.out) hb); have n2_ := Aside0.mk (Kd.S_lower ho0 (below_size (by repeat (first | (with_reducible first | exact HB.out | apply below_alloc | apply pw_below_drewN | apply below_drew1) | exact HB.out)))); have n3_ := Aside0.mk (below_step (by repeat (first | (with_reducible first | exact HB.out | apply below_alloc | apply pw_below_drewN | apply below_drew1) | exact HB.out)) hb); clear HO215; clear HO218; clear HB; have HO215 := n0_; have HO218 := n1_; have HO222 := n2_; have HB := n3_; clear n0_ n1_ n2_ n3_; (try clear hb); (try clear hb2); (try clear hk); (try clear hi); (try clear ho0)) | (go_at_call 11; (with_reducible refine (spec_ClassesOk.calls k _ _ t213 false _ ?side1 ?side2 A7.out).mono ?_); (case side1 => repeat (first | exact (Kd.S_reads' HO215.out).2.2 | (with_reducible refine Kd.C_alloc ?_ _) | (with_reducible refine Kd.C_drewN ?_ _) | (with_reducible refine Kd.C_drew ?_))); (case side2 => exact (Kd.S_reads' HO215.out).2.1); rintro e w' ⟨rfl, ⟨nd, rfl⟩⟩; (try first | exact ⟨rfl, _, World.drewN_drewN _ _ _⟩ | exact ⟨rfl, _, Eq.trans (World.drewN_drewN _ _ _) (congrArg (World.drewN _) (Nat.add_assoc _ _ _))⟩); obtain ⟨Ao68, co68, eo68⟩ := Kd.S_slice HO222.out; subst eo68; obtain ⟨Ao69, co69, eo69⟩ := Kd.R_slice HO218.out; subst eo69))
     repeat (go_quiet (first | (go_at_call 15; (with_reducible refine (laws_big.calls _ _ l0 false _ ?side1 ?side2 A2.out).mono ?_); (case side1 => repeat (first | exact HR0.out | (with_reducible refine Kd.C_alloc ?_ _) | (with_reducible refine Kd.C_drewN ?_ _) | (with_reducible refine Kd.C_drew ?_))); (case side2 => exact HC0.out); rintro e w' ⟨rfl, ⟨nd, rfl⟩⟩; (try first | exact ⟨rfl, _, World.drewN_drewN _ _ _⟩ | exact ⟨rfl, _, Eq.trans (World.drewN_drewN _ _ _) (congrArg (World.drewN _) (Nat.add_assoc _ _ _))⟩)) | (go_at_call 16; (with_reducible refine (spec_DrawMro.calls k _ _ l0 t213 _ ?side1 ?side2 A4.out).mono ?_); (case side1 => repeat (first | exact HR0.out | (with_reducible refine Kd.C_alloc ?_ _) | (with_reducible refine Kd.C_drewN ?_ _) | (with_reducible refine Kd.C_drew ?_))); (case side2 => exact HC0.out); rintro e w64 ⟨v214, rfl, ho0, hb⟩; have n0_ := Aside0.mk (Kd.S_lower ho0 (below_size (by repeat (first | (with_reducible first | exact HB.out | apply below_alloc | apply pw_below_drewN | apply below_drew1) | exact HB.out)))); have n1_ := Aside0.mk (below_step (by repeat (first | (with_reducible first | exact HB.out | apply below_alloc | apply pw_below_drewN | apply below_drew1) | exact HB.out)) hb); clear HB; have HO215 := n0_; have HB := n1_; clear n0_ n1_; (try clear hb); (try clear hb2); (try clear hk); (try clear hi); (try clear ho0); obtain ⟨Ao65, co65, eo65⟩ := Kd.S_slice HO215.out; subst eo65) | (go_at_call 17; (with_reducible refine (impl_MroFits.calls _ _ t213 t216 _ ?side1 ?side2 A5.out).mono ?_); (case side1 => repeat (first | exact (Kd.S_reads' HO215.out).2.2 | (with_reducible refine Kd.C_alloc ?_ _) | (with_reducible refine Kd.C_drewN ?_ _) | (with_reducible refine Kd.C_drew ?_))); (case side2 => exact (Kd.S_reads' HO215.out).2.1); rintro e w66 ⟨v217, rfl, ho0, hb⟩; have n0_ := Aside0.mk (Kd.S_below (by (with_reducible repeat (first | apply Kd.S_alloc | apply Kd.S_drewN | apply Kd.S_drew)); exact HO215.out) hb); have n1_ := Aside0.mk (Kd.R_lower ho0 (below_size (by repeat (first | (with_reducible first | exact HB.out | apply below_alloc | apply pw_below_drewN | apply below_drew1) | exact HB.out)))); have n2_ := Aside0.mk (below_step (by repeat (first | (with_reducible first | exact HB.out | apply below_alloc | apply pw_below_drewN | apply below_drew1) | exact HB.out)) hb); clear HO215; clear HB; have HO215 := n0_; have HO218 := n1_; have HB := n2_; clear n0_ n1_ n2_; (try clear hb); (try clear hb2); (try clear hk); (try clear hi); (try clear ho0)) | (go_at_call 18; (with_reducible refine (impl_Mro.calls _ _ t213 t219 t220 _ ?side1 ?side2 A6.out).mono ?_); (case side1 => repeat (first | exact (Kd.S_reads' HO215.out).2.2 | (with_reducible refine Kd.C_alloc ?_ _) | (with_reducible refine Kd.C_drewN ?_ _) | (with_reducible refine Kd.C_drew ?_))); (case side2 => exact (Kd.S_reads' HO215.out).2.1); rintro e w67 ⟨v221, rfl, ho0, hb⟩; have n0_ := Aside0.mk (Kd.S_below (by (with_reducible repeat (first | apply Kd.S_alloc | apply Kd.S_drewN | apply Kd.S_drew)); exact HO215.out) hb); have n1_ := Aside0.mk (Kd.R_below (by (with_reducible repeat (first | apply Kd.R_alloc | apply Kd.R_drewN | apply Kd.R_drew)); exact HO218.out) hb); have n2_ := Aside0.mk (Kd.S_lower ho0 (below_size (by repeat (first | (with_reducible first | exact HB.out | apply below_alloc | apply pw_below_drewN | apply below_drew1) | exact HB.out)))); have n3_ := Aside0.mk (below_step (by repeat (first | (with_reducible first | exact HB.out | apply below_alloc | apply pw_below_drewN | apply below_drew1) | exact HB.out)) hb); clear HO215; clear HO218; clear HB; have HO215 := n0_; have HO218 := n1_; have HO222 := n2_; have HB := n3_; clear n0_ n1_ n2_ n3_; (try clear hb); (try clear hb2); (try clear hk); (try clear hi); (try clear ho0)) | (go_at_call 11; (with_reducible refine (spec_ClassesOk.calls k _ _ t213 false _ ?side1 ?side2 A7.out).mono ?_); (case side1 => repeat (first | exact (Kd.S_reads' HO215.out).2.2 | (with_reducible refine Kd.C_alloc ?_ _) | (with_reducible refine Kd.C_drewN ?_ _) | (with_reducible refine Kd.C_drew ?_))); (case side2 => exact (Kd.S_reads' HO215.out).2.1); rintro e w' ⟨rfl, ⟨nd, rfl⟩⟩; (try first | exact ⟨rfl, _, World.drewN_drewN _ _ _⟩ | exact ⟨rfl, _, Eq.trans (World.drewN_drewN _ _ _) (congrArg (World.drewN _) (Nat.add_assoc _ _ _))⟩); obtain ⟨Ao68, co68, eo68⟩ := Kd.S_slice HO222.out; subst eo68; obtain ⟨Ao69, co69, eo69⟩ := Kd.R_slice HO218.out; subst eo69)); try go_wp2_with (first | (go_at_call 15; (with_reducible refine (laws_big.calls _ _ l0 false _ ?side1 ?side2 A2.out).mono ?_); (case side1 => repeat (first | exact HR0.out | (with_reducible refine Kd.C_alloc ?_ _) | (with_reducible refine Kd.C_drewN ?_ _) | (with_reducible refine Kd.C_drew ?_))); (case side2 => exact HC0.out); rintro e w' ⟨rfl, ⟨nd, rfl⟩⟩; (try first | exact ⟨rfl, _, World.drewN_drewN _ _ _⟩ | exact ⟨rfl, _, Eq.trans (World.drewN_drewN _ _ _) (congrArg (World.drewN _) (Nat.add_assoc _ _ _))⟩)) | (go_at_call 16; (with_reducible refine (spec_DrawMro.calls k _ _ l0 t213 _ ?side1 ?side2 A4.out).mono ?_); (case side1 => repeat (first | exact HR0.out | (with_reducible refine Kd.C_alloc ?_ _) | (with_reducible refine Kd.C_drewN ?_ _) | (with_reducible refine Kd.C_drew ?_))); (case side2 => exact HC0.out); rintro e w64 ⟨v214, rfl, ho0, hb⟩; have n0_ := Aside0.mk (Kd.S_lower ho0 (below_size (by repeat (first | (with_reducible first | exact HB.out | apply below_alloc | apply pw_below_drewN | apply below_drew1) | exact HB.out)))); have n1_ := Aside0.mk (below_step (by repeat (first | (with_reducible first | exact HB.out | apply below_alloc | apply pw_below_drewN | apply below_drew1) | exact HB.out)) hb); clear HB; have HO215 := n0_; have HB := n1_; clear n0_ n1_; (try clear hb); (try clear hb2); (try clear hk); (try clear hi); (try clear ho0); obtain ⟨Ao65, co65, eo65⟩ := Kd.S_slice HO215.out; subst eo65) | (go_at_call 17; (with_reducible refine (impl_MroFits.calls _ _ t213 t216 _ ?side1 ?side2 A5.out).mono ?_); (case side1 => repeat (first | exact (Kd.S_reads' HO215.out).2.2 | (with_reducible refine Kd.C_alloc ?_ _) | (with_reducible refine Kd.C_drewN ?_ _) | (with_reducible refine Kd.C_drew ?_))); (case side2 => exact (Kd.S_reads' HO215.out).2.1); rintro e w66 ⟨v217, rfl, ho0, hb⟩; have n0_ := Aside0.mk (Kd.S_below (by (with_reducible repeat (first | apply Kd.S_alloc | apply Kd.S_drewN | apply Kd.S_drew)); exact HO215.out) hb); have n1_ := Aside0.mk (Kd.R_lower ho0 (below_size (by repeat (first | (with_reducible first | exact HB.out | apply below_alloc | apply pw_below_drewN | apply below_drew1) | exact HB.out)))); have n2_ := Aside0.mk (below_step (by repeat (first | (with_reducible first | exact HB.out | apply below_alloc | apply pw_below_drewN | apply below_drew1) | exact HB.out)) hb); clear HO215; clear HB; have HO215 := n0_; have HO218 := n1_; have HB := n2_; clear n0_ n1_ n2_; (try clear hb); (try clear hb2); (try clear hk); (try clear hi); (try clear ho0)) | (go_at_call 18; (with_reducible refine (impl_Mro.calls _ _ t213 t219 t220 _ ?side1 ?side2 A6.out).mono ?_); (case side1 => repeat (first | exact (Kd.S_reads' HO215.out).2.2 | (with_reducible refine Kd.C_alloc ?_ _) | (with_reducible refine Kd.C_drewN ?_ _) | (with_reducible refine Kd.C_drew ?_))); (case side2 => exact (Kd.S_reads' HO215.out).2.1); rintro e w67 ⟨v221, rfl, ho0, hb⟩; have n0_ := Aside0.mk (Kd.S_below (by (with_reducible repeat (first | apply Kd.S_alloc | apply Kd.S_drewN | apply Kd.S_drew)); exact HO215.out) hb); have n1_ := Aside0.mk (Kd.R_below (by (with_reducible repeat (first | apply Kd.R_alloc | apply Kd.R_drewN | apply Kd.R_drew)); exact HO218.out) hb); have n2_ := Aside0.mk (Kd.S_lower ho0 (below_size (by repeat (first | (with_reducible first | exact HB.out | apply below_alloc | apply pw_below_drewN | apply below_drew1) | exact HB.out)))); have n3_ := Aside0.mk (below_step (by repeat (first | (with_reducible first | exact HB.out | apply below_alloc | apply pw_below_drewN | apply below_drew1) | exact HB.out)) hb); clear HO215; clear HO218; clear HB; have HO215 := n0_; have HO218 := n1_; have HO222 := n2_; have HB := n3_; clear n0_ n1_ n2_ n3_; (try clear hb); (try clear hb2); (try clear hk); (try clear hi); (try clear ho0)) | (go_at_call 11; (with_reducible refine (spec_ClassesOk.calls k _ _ t213 false _ ?side1 ?side2 A7.out).mono ?_); (case side1 => repeat (first | exact (Kd.S_reads' HO215.out).2.2 | (with_reducible refine Kd.C_alloc ?_ _) | (with_reducible refine Kd.C_drewN ?_ _) | (with_reducible refine Kd.C_drew ?_))); (case side2 => exact (Kd.S_reads' HO215.out).2.1); rintro e w' ⟨rfl, ⟨nd, rfl⟩⟩; (try first | exact ⟨rfl, _, World.drewN_drewN _ _ _⟩ | exact ⟨rfl, _, Eq.trans (World.drewN_drewN _ _ _) (congrArg (World.drewN _) (Nat.add_assoc _ _ _))⟩); obtain ⟨Ao68, co68, eo68⟩ := Kd.S_slice HO222.out; subst eo68; obtain ⟨Ao69, co69, eo69⟩ := Kd.R_slice HO218.out; subst eo69)))
     go_ret
     exact ⟨by first | rfl | (simp [errW_none, errW_some] <;> rfl) | (simp [*, errW_none, errW_some] <;> rfl), by repeat (first | (with_reducible first | exact HB.out | apply below_alloc | apply pw_below_drewN | apply below_drew1) | exact HB.out)⟩
    ·rw [if_neg c63] at H
     exact absurd H (by simp)
   ·rw [if_neg c62] at H
    exact absurd H (by simp)

/-- THE ONE PURE STATEMENT of laws_FnLines: yours. -/
def laws_FnLines.Pure : Prop := ∀ (l0 : List Int), l0.length ≤ maxLen → l0.length * 1 ≤ 140737488351232 → (∀ x ∈ l0, (Lit.int .u8 x).wf = true) → ∃ k, laws_FnLines.f k l0 = some true
theorem laws_FnLines.walk (P : laws_FnLines.Pure) (a0 : Option Addr) (len0 cap0 : Nat) (z0 : List Int) (w : World) (w0 : (a0 = none ∧ len0 = 0 ∧ cap0 = 0 ∧ z0 = []) ∨ ∃ x, a0 = some x ∧ len0 ≤ cap0 ∧ cap0 ≤ maxLen ∧ z0.length = cap0 ∧ (∀ i, i < z0.length → w.cell? (x.add i) = some (.int .u8 (z0.getD i 0))) ∧ ∀ n ∈ z0, (Lit.int .u8 n).wf = true) (y0 : len0 * 1 ≤ 140737488351232) :
  Calls Try.prog 4 #[.slice a0 len0 cap0] w fun e w' => e = .returned (.bool true) ∧ Below w.heap.size w w' := by
 obtain ⟨l0, rfl, hr0, hm0, hw0, hc0⟩ := ReadsInt.ofRowC w0
 obtain ⟨k, h⟩ := P l0 hm0 y0 hw0
 refine (laws_FnLines.calls k _ _ l0 true w (Kd.C_of_reads (d := (0 : Int)) (h1 := fun _ => rfl) hr0) hc0 h).mono ?_
 rintro e w' ⟨rfl, hd⟩
 exact ⟨rfl, hd⟩

end Go.Proofs.Ytkclfbmgnhmkhaa.PC
