/- Go functions as Lean functions, and that each Go function comes to just that; printed by a program of this session (gprint.py over the kit's print.py). No condition. -/
import Derived.Test.YtghjbadanhplnaaPHx9
import Derived.Test.YtghjbadanhplnaaPHx3
import Derived.Test.YtghjbadanhplnaaGFlo
import Derived.Test.YtghjbadanhplnaaGFop
import Derived.Test.YtghjbadanhplnaaPGx3
namespace Go.Proofs.Ytghjbadanhplnaa.PF
open Go.RowKit Go.Proofs.YtghjbadanhplnaaW.PrintWords Go.Proofs.YtghjbadanhplnaaW.PrintLast Go.Proofs.YtghjbadanhplnaaW.PrintMore
attribute [local go_sem] max2_int min2_int max_two min_two max_three min_three max_four min_four   -- for this text's walks alone
set_option linter.unusedVariables false
set_option linter.unusedSimpArgs false

/-! ### laws_FnFloatRules: function 5 -/
def laws_FnFloatRules.j0 : Nat → Int → Bool → Option (Bool)
 | 0, _, _ => none
 | k + 1, x4, x100 => if x100 = true then (none) else ((impl_FloatOp.f 2 x4 x4).bind fun bt302 => ((impl_FloatOp.f 1 4607182418800017408 4607182418800017408).bind fun bt304 => (if bt304.1 = 4611686018427387904 then ((impl_FloatCmp.f 4607182418800017408 bt304.1).bind fun t306 => (if t306 = (-1) then (if bt302.2 = 0 then (if bt302.1 = 0 then (some true) else (some (bt302.1 == 9221120237041090560))) else (none)) else (none))) else (none))))
def laws_FnFloatRules.f (k : Nat) (l0 : List Int) : Option (Bool) := (laws_big.f l0).bind fun t288 => (if t288 = true then (some true) else ((spec_DrawFloatOp.f k l0).bind fun bt289 => ((impl_FloatOp.f 1 bt289.2.1 bt289.2.2).bind fun bt292 => ((impl_FloatOp.f 1 bt289.2.2 bt289.2.1).bind fun bt294 => ((impl_FloatOp.f 3 bt289.2.1 bt289.2.2).bind fun bt296 => ((impl_FloatOp.f 3 bt289.2.2 bt289.2.1).bind fun bt298 => ((impl_FloatCmp.f bt289.2.1 bt289.2.2).bind fun t300 => ((impl_FloatCmp.f bt289.2.2 bt289.2.1).bind fun t301 => (if bt292.2 = 0 then (if bt294.2 = 0 then (if bt296.2 = 0 then (if bt298.2 = 0 then (if bt292.1 = bt294.1 then (if bt296.1 = bt298.1 then (if t300 = 2 then (if t301 = 2 then (laws_FnFloatRules.j0 k bt289.2.1 false) else (laws_FnFloatRules.j0 k bt289.2.1 true)) else (laws_FnFloatRules.j0 k bt289.2.1 (t301 != (wrap64 (-t300))))) else (laws_FnFloatRules.j0 k bt289.2.1 true)) else (laws_FnFloatRules.j0 k bt289.2.1 true)) else (laws_FnFloatRules.j0 k bt289.2.1 true)) else (laws_FnFloatRules.j0 k bt289.2.1 true)) else (laws_FnFloatRules.j0 k bt289.2.1 true)) else (laws_FnFloatRules.j0 k bt289.2.1 true))))))))))
set_option maxHeartbeats 8000000 in
set_option maxRecDepth 100000 in
theorem laws_FnFloatRules.calls (k : Nat) (A0 : Option Addr) (c0 : Nat) (l0 : List Int) (r : Bool) (w : World) (hr0 : Kd.C (Kd.int .u8) w A0 l0.length l0) (hc0 : l0.length ≤ c0) (h : laws_FnFloatRules.f k l0 = some r) :
  Calls Try.prog 5 #[.slice A0 l0.length c0] w fun e w' => e = .returned (.bool r) ∧ Below w.heap.size w w' := by
 have HR0 := Aside0.mk hr0
 have HC0 := Aside0.mk hc0
 clear hr0 hc0
 have HB := Aside0.mk (Below.refl w.heap.size w)
 have H : ((laws_big.f l0).bind fun t288 => (if t288 = true then (some true) else ((spec_DrawFloatOp.f k l0).bind fun bt289 => ((impl_FloatOp.f 1 bt289.2.1 bt289.2.2).bind fun bt292 => ((impl_FloatOp.f 1 bt289.2.2 bt289.2.1).bind fun bt294 => ((impl_FloatOp.f 3 bt289.2.1 bt289.2.2).bind fun bt296 => ((impl_FloatOp.f 3 bt289.2.2 bt289.2.1).bind fun bt298 => ((impl_FloatCmp.f bt289.2.1 bt289.2.2).bind fun t300 => ((impl_FloatCmp.f bt289.2.2 bt289.2.1).bind fun t301 => (if bt292.2 = 0 then (if bt294.2 = 0 then (if bt296.2 = 0 then (if bt298.2 = 0 then (if bt292.1 = bt294.1 then (if bt296.1 = bt298.1 then (if t300 = 2 then (if t301 = 2 then (laws_FnFloatRules.j0 k bt289.2.1 false) else (laws_FnFloatRules.j0 k bt289.2.1 true)) else (laws_FnFloatRules.j0 k bt289.2.1 (t301 != (wrap64 (-t300))))) else (laws_FnFloatRules.j0 k bt289.2.1 true)) else (laws_FnFloatRules.j0 k bt289.2.1 true)) else (laws_FnFloatRules.j0 k bt289.2.1 true)) else (laws_FnFloatRules.j0 k bt289.2.1 true)) else (laws_FnFloatRules.j0 k bt289.2.1 true)) else (laws_FnFloatRules.j0 k bt289.2.1 true))))))))))) = some r := h
 clear h
 replace H := Option.bind_eq_some_iff.mp H
 obtain ⟨t288, A20, H⟩ := H
 replace H : (if t288 = true then (some true) else ((spec_DrawFloatOp.f k l0).bind fun bt289 => ((impl_FloatOp.f 1 bt289.2.1 bt289.2.2).bind fun bt292 => ((impl_FloatOp.f 1 bt289.2.2 bt289.2.1).bind fun bt294 => ((impl_FloatOp.f 3 bt289.2.1 bt289.2.2).bind fun bt296 => ((impl_FloatOp.f 3 bt289.2.2 bt289.2.1).bind fun bt298 => ((impl_FloatCmp.f bt289.2.1 bt289.2.2).bind fun t300 => ((impl_FloatCmp.f bt289.2.2 bt289.2.1).bind fun t301 => (if bt292.2 = 0 then (if bt294.2 = 0 then (if bt296.2 = 0 then (if bt298.2 = 0 then (if bt292.1 = bt294.1 then (if bt296.1 = bt298.1 then (if t300 = 2 then (if t301 = 2 then (laws_FnFloatRules.j0 k bt289.2.1 false) else (laws_FnFloatRules.j0 k bt289.2.1 true)) else (laws_FnFloatRules.j0 k bt289.2.1 (t301 != (wrap64 (-t300))))) else (laws_FnFloatRules.j0 k bt289.2.1 true)) else (laws_FnFloatRules.j0 k bt289.2.1 true)) else (laws_FnFloatRules.j0 k bt289.2.1 true)) else (laws_FnFloatRules.j0 k bt289.2.1 true)) else (laws_FnFloatRules.j0 k bt289.2.1 true)) else (laws_FnFloatRules.j0 k bt289.2.1 true)))))))))) = some r := H
 have A2 := Aside0.mk A20
 clear A20
 by_cases c3 : t288 = true
 ·subst c3
  have H1 : (some true) = some r := by rw [if_pos rfl] at H; exact H
  clear H
  have H := H1
  clear H1
  obtain rfl := Option.some.inj H
  go_enter Try.func5, Try.ntmps5
  go_wp2_with (first | ((with_reducible refine gate_callee (f := 10) rfl ?_); refine goesL_ (some 22) rfl rfl Try.func10 (by kernel_rfl) rfl #[.slice A0 l0.length c0] rfl (by (try simp only [List.map_toArray, List.map_cons, List.map_nil]); first | done | rfl | (simp only [List.length_drop, List.length_take]; rfl)) ?_; (with_reducible refine (laws_big.calls _ _ l0 true _ ?side1 ?side2 A2.out).mono ?_); (case side1 => repeat (first | exact HR0.out | (with_reducible refine Kd.C_alloc ?_ _) | (with_reducible refine Kd.C_drewN ?_ _) | (with_reducible refine Kd.C_drew ?_))); (case side2 => exact HC0.out); rintro e w' ⟨rfl, ⟨nd, rfl⟩⟩; refine ⟨_, rfl, ?_⟩))
  go_ret
  exact ⟨by first | rfl | (simp [errW_none, errW_some] <;> rfl) | (simp [*, errW_none, errW_some] <;> rfl), by repeat (first | (with_reducible first | exact HB.out | apply below_alloc | apply pw_below_drewN | apply below_drew1) | exact HB.out)⟩
 ·replace c3 := Bool.eq_false_iff.mpr c3
  subst c3
  have H1 : ((spec_DrawFloatOp.f k l0).bind fun bt289 => ((impl_FloatOp.f 1 bt289.2.1 bt289.2.2).bind fun bt292 => ((impl_FloatOp.f 1 bt289.2.2 bt289.2.1).bind fun bt294 => ((impl_FloatOp.f 3 bt289.2.1 bt289.2.2).bind fun bt296 => ((impl_FloatOp.f 3 bt289.2.2 bt289.2.1).bind fun bt298 => ((impl_FloatCmp.f bt289.2.1 bt289.2.2).bind fun t300 => ((impl_FloatCmp.f bt289.2.2 bt289.2.1).bind fun t301 => (if bt292.2 = 0 then (if bt294.2 = 0 then (if bt296.2 = 0 then (if bt298.2 = 0 then (if bt292.1 = bt294.1 then (if bt296.1 = bt298.1 then (if t300 = 2 then (if t301 = 2 then (laws_FnFloatRules.j0 k bt289.2.1 false) else (laws_FnFloatRules.j0 k bt289.2.1 true)) else (laws_FnFloatRules.j0 k bt289.2.1 (t301 != (wrap64 (-t300))))) else (laws_FnFloatRules.j0 k bt289.2.1 true)) else (laws_FnFloatRules.j0 k bt289.2.1 true)) else (laws_FnFloatRules.j0 k bt289.2.1 true)) else (laws_FnFloatRules.j0 k bt289.2.1 true)) else (laws_FnFloatRules.j0 k bt289.2.1 true)) else (laws_FnFloatRules.j0 k bt289.2.1 true))))))))) = some r := by rw [if_neg (show ¬ (false = true) by decide)] at H; exact H
  clear H
  have H := H1
  clear H1
  replace H := Option.bind_eq_some_iff.mp H
  obtain ⟨⟨t289, t290, t291⟩, A40, H⟩ := H
  replace H : ((impl_FloatOp.f 1 t290 t291).bind fun bt292 => ((impl_FloatOp.f 1 t291 t290).bind fun bt294 => ((impl_FloatOp.f 3 t290 t291).bind fun bt296 => ((impl_FloatOp.f 3 t291 t290).bind fun bt298 => ((impl_FloatCmp.f t290 t291).bind fun t300 => ((impl_FloatCmp.f t291 t290).bind fun t301 => (if bt292.2 = 0 then (if bt294.2 = 0 then (if bt296.2 = 0 then (if bt298.2 = 0 then (if bt292.1 = bt294.1 then (if bt296.1 = bt298.1 then (if t300 = 2 then (if t301 = 2 then (laws_FnFloatRules.j0 k t290 false) else (laws_FnFloatRules.j0 k t290 true)) else (laws_FnFloatRules.j0 k t290 (t301 != (wrap64 (-t300))))) else (laws_FnFloatRules.j0 k t290 true)) else (laws_FnFloatRules.j0 k t290 true)) else (laws_FnFloatRules.j0 k t290 true)) else (laws_FnFloatRules.j0 k t290 true)) else (laws_FnFloatRules.j0 k t290 true)) else (laws_FnFloatRules.j0 k t290 true)))))))) = some r := H
  have A4 := Aside0.mk A40
  clear A40
  replace H := Option.bind_eq_some_iff.mp H
  obtain ⟨⟨t292, t293⟩, A50, H⟩ := H
  replace H : ((impl_FloatOp.f 1 t291 t290).bind fun bt294 => ((impl_FloatOp.f 3 t290 t291).bind fun bt296 => ((impl_FloatOp.f 3 t291 t290).bind fun bt298 => ((impl_FloatCmp.f t290 t291).bind fun t300 => ((impl_FloatCmp.f t291 t290).bind fun t301 => (if t293 = 0 then (if bt294.2 = 0 then (if bt296.2 = 0 then (if bt298.2 = 0 then (if t292 = bt294.1 then (if bt296.1 = bt298.1 then (if t300 = 2 then (if t301 = 2 then (laws_FnFloatRules.j0 k t290 false) else (laws_FnFloatRules.j0 k t290 true)) else (laws_FnFloatRules.j0 k t290 (t301 != (wrap64 (-t300))))) else (laws_FnFloatRules.j0 k t290 true)) else (laws_FnFloatRules.j0 k t290 true)) else (laws_FnFloatRules.j0 k t290 true)) else (laws_FnFloatRules.j0 k t290 true)) else (laws_FnFloatRules.j0 k t290 true)) else (laws_FnFloatRules.j0 k t290 true))))))) = some r := H
  have A5 := Aside0.mk A50
  clear A50
  replace H := Option.bind_eq_some_iff.mp H
  obtain ⟨⟨t294, t295⟩, A60, H⟩ := H
  replace H : ((impl_FloatOp.f 3 t290 t291).bind fun bt296 => ((impl_FloatOp.f 3 t291 t290).bind fun bt298 => ((impl_FloatCmp.f t290 t291).bind fun t300 => ((impl_FloatCmp.f t291 t290).bind fun t301 => (if t293 = 0 then (if t295 = 0 then (if bt296.2 = 0 then (if bt298.2 = 0 then (if t292 = t294 then (if bt296.1 = bt298.1 then (if t300 = 2 then (if t301 = 2 then (laws_FnFloatRules.j0 k t290 false) else (laws_FnFloatRules.j0 k t290 true)) else (laws_FnFloatRules.j0 k t290 (t301 != (wrap64 (-t300))))) else (laws_FnFloatRules.j0 k t290 true)) else (laws_FnFloatRules.j0 k t290 true)) else (laws_FnFloatRules.j0 k t290 true)) else (laws_FnFloatRules.j0 k t290 true)) else (laws_FnFloatRules.j0 k t290 true)) else (laws_FnFloatRules.j0 k t290 true)))))) = some r := H
  have A6 := Aside0.mk A60
  clear A60
  replace H := Option.bind_eq_some_iff.mp H
  obtain ⟨⟨t296, t297⟩, A70, H⟩ := H
  replace H : ((impl_FloatOp.f 3 t291 t290).bind fun bt298 => ((impl_FloatCmp.f t290 t291).bind fun t300 => ((impl_FloatCmp.f t291 t290).bind fun t301 => (if t293 = 0 then (if t295 = 0 then (if t297 = 0 then (if bt298.2 = 0 then (if t292 = t294 then (if t296 = bt298.1 then (if t300 = 2 then (if t301 = 2 then (laws_FnFloatRules.j0 k t290 false) else (laws_FnFloatRules.j0 k t290 true)) else (laws_FnFloatRules.j0 k t290 (t301 != (wrap64 (-t300))))) else (laws_FnFloatRules.j0 k t290 true)) else (laws_FnFloatRules.j0 k t290 true)) else (laws_FnFloatRules.j0 k t290 true)) else (laws_FnFloatRules.j0 k t290 true)) else (laws_FnFloatRules.j0 k t290 true)) else (laws_FnFloatRules.j0 k t290 true))))) = some r := H
  have A7 := Aside0.mk A70
  clear A70
  replace H := Option.bind_eq_some_iff.mp H
  obtain ⟨⟨t298, t299⟩, A80, H⟩ := H
  replace H : ((impl_FloatCmp.f t290 t291).bind fun t300 => ((impl_FloatCmp.f t291 t290).bind fun t301 => (if t293 = 0 then (if t295 = 0 then (if t297 = 0 then (if t299 = 0 then (if t292 = t294 then (if t296 = t298 then (if t300 = 2 then (if t301 = 2 then (laws_FnFloatRules.j0 k t290 false) else (laws_FnFloatRules.j0 k t290 true)) else (laws_FnFloatRules.j0 k t290 (t301 != (wrap64 (-t300))))) else (laws_FnFloatRules.j0 k t290 true)) else (laws_FnFloatRules.j0 k t290 true)) else (laws_FnFloatRules.j0 k t290 true)) else (laws_FnFloatRules.j0 k t290 true)) else (laws_FnFloatRules.j0 k t290 true)) else (laws_FnFloatRules.j0 k t290 true)))) = some r := H
  have A8 := Aside0.mk A80
  clear A80
  replace H := Option.bind_eq_some_iff.mp H
  obtain ⟨t300, A90, H⟩ := H
  replace H : ((impl_FloatCmp.f t291 t290).bind fun t301 => (if t293 = 0 then (if t295 = 0 then (if t297 = 0 then (if t299 = 0 then (if t292 = t294 then (if t296 = t298 then (if t300 = 2 then (if t301 = 2 then (laws_FnFloatRules.j0 k t290 false) else (laws_FnFloatRules.j0 k t290 true)) else (laws_FnFloatRules.j0 k t290 (t301 != (wrap64 (-t300))))) else (laws_FnFloatRules.j0 k t290 true)) else (laws_FnFloatRules.j0 k t290 true)) else (laws_FnFloatRules.j0 k t290 true)) else (laws_FnFloatRules.j0 k t290 true)) else (laws_FnFloatRules.j0 k t290 true)) else (laws_FnFloatRules.j0 k t290 true))) = some r := H
  have A9 := Aside0.mk A90
  clear A90
  replace H := Option.bind_eq_some_iff.mp H
  obtain ⟨t301, A100, H⟩ := H
  replace H : (if t293 = 0 then (if t295 = 0 then (if t297 = 0 then (if t299 = 0 then (if t292 = t294 then (if t296 = t298 then (if t300 = 2 then (if t301 = 2 then (laws_FnFloatRules.j0 k t290 false) else (laws_FnFloatRules.j0 k t290 true)) else (laws_FnFloatRules.j0 k t290 (t301 != (wrap64 (-t300))))) else (laws_FnFloatRules.j0 k t290 true)) else (laws_FnFloatRules.j0 k t290 true)) else (laws_FnFloatRules.j0 k t290 true)) else (laws_FnFloatRules.j0 k t290 true)) else (laws_FnFloatRules.j0 k t290 true)) else (laws_FnFloatRules.j0 k t290 true)) = some r := H
  have A10 := Aside0.mk A100
  clear A100
  have HC11 := Aside0.mk H
  clear H
  go_enter Try.func5, Try.ntmps5
  go_upto_region 10 with (first | ((with_reducible refine gate_callee (f := 10) rfl ?_); refine goesL_ (some 22) rfl rfl Try.func10 (by kernel_rfl) rfl #[.slice A0 l0.length c0] rfl (by (try simp only [List.map_toArray, List.map_cons, List.map_nil]); first | done | rfl | (simp only [List.length_drop, List.length_take]; rfl)) ?_; (with_reducible refine (laws_big.calls _ _ l0 false _ ?side1 ?side2 A2.out).mono ?_); (case side1 => repeat (first | exact HR0.out | (with_reducible refine Kd.C_alloc ?_ _) | (with_reducible refine Kd.C_drewN ?_ _) | (with_reducible refine Kd.C_drew ?_))); (case side2 => exact HC0.out); rintro e w' ⟨rfl, ⟨nd, rfl⟩⟩; refine ⟨_, rfl, ?_⟩) | ((with_reducible refine gate_callee (f := 11) rfl ?_); refine goesL_ (some 25) rfl rfl Try.func11 (by kernel_rfl) rfl #[.slice A0 l0.length c0] rfl (by (try simp only [List.map_toArray, List.map_cons, List.map_nil]); first | done | rfl | (simp only [List.length_drop, List.length_take]; rfl)) ?_; (with_reducible refine (spec_DrawFloatOp.calls k _ _ l0 t289 t290 t291 _ ?side1 ?side2 A4.out).mono ?_); (case side1 => repeat (first | exact HR0.out | (with_reducible refine Kd.C_alloc ?_ _) | (with_reducible refine Kd.C_drewN ?_ _) | (with_reducible refine Kd.C_drew ?_))); (case side2 => exact HC0.out); rintro e w12 ⟨rfl, hb⟩; refine ⟨_, rfl, ?_⟩; have n0_ := Aside0.mk (below_step (by repeat (first | (with_reducible first | exact HB.out | apply below_alloc | apply pw_below_drewN | apply below_drew1) | exact HB.out)) hb); clear HB; have HB := n0_; clear n0_; (try clear hb); (try clear hb2); (try clear hk); (try clear hi)) | ((with_reducible refine gate_callee (f := 9) rfl ?_); refine goesL_ (some 32) rfl rfl Try.func9 (by kernel_rfl) rfl #[.int .i64 1, .int .u64 t290, .int .u64 t291] rfl (by (try simp only [List.map_toArray, List.map_cons, List.map_nil]); first | done | rfl | (simp only [List.length_drop, List.length_take]; rfl)) ?_; (with_reducible refine (impl_FloatOp.calls 1 t290 t291 t292 t293 _ A5.out).mono ?_); rintro e w13 ⟨rfl, hb⟩; refine ⟨_, rfl, ?_⟩; have n0_ := Aside0.mk (below_step (by repeat (first | (with_reducible first | exact HB.out | apply below_alloc | apply pw_below_drewN | apply below_drew1) | exact HB.out)) hb); clear HB; have HB := n0_; clear n0_; (try clear hb); (try clear hb2); (try clear hk); (try clear hi)) | ((with_reducible refine gate_callee (f := 9) rfl ?_); refine goesL_ (some 38) rfl rfl Try.func9 (by kernel_rfl) rfl #[.int .i64 1, .int .u64 t291, .int .u64 t290] rfl (by (try simp only [List.map_toArray, List.map_cons, List.map_nil]); first | done | rfl | (simp only [List.length_drop, List.length_take]; rfl)) ?_; (with_reducible refine (impl_FloatOp.calls 1 t291 t290 t294 t295 _ A6.out).mono ?_); rintro e w14 ⟨rfl, hb⟩; refine ⟨_, rfl, ?_⟩; have n0_ := Aside0.mk (below_step (by repeat (first | (with_reducible first | exact HB.out | apply below_alloc | apply pw_below_drewN | apply below_drew1) | exact HB.out)) hb); clear HB; have HB := n0_; clear n0_; (try clear hb); (try clear hb2); (try clear hk); (try clear hi)) | ((with_reducible refine gate_callee (f := 9) rfl ?_); refine goesL_ (some 44) rfl rfl Try.func9 (by kernel_rfl) rfl #[.int .i64 3, .int .u64 t290, .int .u64 t291] rfl (by (try simp only [List.map_toArray, List.map_cons, List.map_nil]); first | done | rfl | (simp only [List.length_drop, List.length_take]; rfl)) ?_; (with_reducible refine (impl_FloatOp.calls 3 t290 t291 t296 t297 _ A7.out).mono ?_); rintro e w15 ⟨rfl, hb⟩; refine ⟨_, rfl, ?_⟩; have n0_ := Aside0.mk (below_step (by repeat (first | (with_reducible first | exact HB.out | apply below_alloc | apply pw_below_drewN | apply below_drew1) | exact HB.out)) hb); clear HB; have HB := n0_; clear n0_; (try clear hb); (try clear hb2); (try clear hk); (try clear hi)) | ((with_reducible refine gate_callee (f := 9) rfl ?_); refine goesL_ (some 50) rfl rfl Try.func9 (by kernel_rfl) rfl #[.int .i64 3, .int .u64 t291, .int .u64 t290] rfl (by (try simp only [List.map_toArray, List.map_cons, List.map_nil]); first | done | rfl | (simp only [List.length_drop, List.length_take]; rfl)) ?_; (with_reducible refine (impl_FloatOp.calls 3 t291 t290 t298 t299 _ A8.out).mono ?_); rintro e w16 ⟨rfl, hb⟩; refine ⟨_, rfl, ?_⟩; have n0_ := Aside0.mk (below_step (by repeat (first | (with_reducible first | exact HB.out | apply below_alloc | apply pw_below_drewN | apply below_drew1) | exact HB.out)) hb); clear HB; have HB := n0_; clear n0_; (try clear hb); (try clear hb2); (try clear hk); (try clear hi)) | ((with_reducible refine gate_callee (f := 7) rfl ?_); refine goesL_ (some 55) rfl rfl Try.func7 (by kernel_rfl) rfl #[.int .u64 t290, .int .u64 t291] rfl (by (try simp only [List.map_toArray, List.map_cons, List.map_nil]); first | done | rfl | (simp only [List.length_drop, List.length_take]; rfl)) ?_; (with_reducible refine (impl_FloatCmp.calls t290 t291 t300 _ A9.out).mono ?_); rintro e w17 ⟨rfl, hb⟩; refine ⟨_, rfl, ?_⟩; have n0_ := Aside0.mk (below_step (by repeat (first | (with_reducible first | exact HB.out | apply below_alloc | apply pw_below_drewN | apply below_drew1) | exact HB.out)) hb); clear HB; have HB := n0_; clear n0_; (try clear hb); (try clear hb2); (try clear hk); (try clear hi)) | ((with_reducible refine gate_callee (f := 7) rfl ?_); refine goesL_ (some 58) rfl rfl Try.func7 (by kernel_rfl) rfl #[.int .u64 t291, .int .u64 t290] rfl (by (try simp only [List.map_toArray, List.map_cons, List.map_nil]); first | done | rfl | (simp only [List.length_drop, List.length_take]; rfl)) ?_; (with_reducible refine (impl_FloatCmp.calls t291 t290 t301 _ A10.out).mono ?_); rintro e w18 ⟨rfl, hb⟩; refine ⟨_, rfl, ?_⟩; have n0_ := Aside0.mk (below_step (by repeat (first | (with_reducible first | exact HB.out | apply below_alloc | apply pw_below_drewN | apply below_drew1) | exact HB.out)) hb); clear HB; have HB := n0_; clear n0_; (try clear hb); (try clear hb2); (try clear hk); (try clear hi)))
  (try simp only [Act.put, List.setIfInBounds_toArray, List.set_cons_zero, List.set_cons_succ])
  go_cut [100] (fun v100 wc => ∃ (kq : Nat) (x100_10 : Bool), v100 = .bool x100_10 ∧ Aside0 (laws_FnFloatRules.j0 kq t290 x100_10 = some r) ∧ Aside0 (kq ≤ k) ∧ Aside0 (Below w.heap.size w wc))
  case first =>
   have H := HC11.out
   clear HC11
   by_cases c19 : t293 = 0
   ·rw [if_pos c19] at H
    have c19b0 : (t293 == 0) = true := beq_iff_eq.mpr c19
    have c19b1 : (t293 != 0) = false := bne_eq_false_iff_eq.mpr c19
    clear c19
    (first | rw [c19b0] | (simp only [i64_w, i32_w]; rw [c19b0]) | skip)
    by_cases c20 : t295 = 0
    ·rw [if_pos c20] at H
     have c20b0 : (t295 == 0) = true := beq_iff_eq.mpr c20
     have c20b1 : (t295 != 0) = false := bne_eq_false_iff_eq.mpr c20
     clear c20
     by_cases c21 : t297 = 0
     ·rw [if_pos c21] at H
      have c21b0 : (t297 == 0) = true := beq_iff_eq.mpr c21
      have c21b1 : (t297 != 0) = false := bne_eq_false_iff_eq.mpr c21
      clear c21
      by_cases c22 : t299 = 0
      ·rw [if_pos c22] at H
       have c22b0 : (t299 == 0) = true := beq_iff_eq.mpr c22
       have c22b1 : (t299 != 0) = false := bne_eq_false_iff_eq.mpr c22
       clear c22
       by_cases c23 : t292 = t294
       ·rw [if_pos c23] at H
        have c23b0 : (t292 == t294) = true := beq_iff_eq.mpr c23
        have c23b1 : (t292 != t294) = false := bne_eq_false_iff_eq.mpr c23
        clear c23
        by_cases c24 : t296 = t298
        ·rw [if_pos c24] at H
         have c24b0 : (t296 == t298) = true := beq_iff_eq.mpr c24
         have c24b1 : (t296 != t298) = false := bne_eq_false_iff_eq.mpr c24
         clear c24
         by_cases c25 : t300 = 2
         ·rw [if_pos c25] at H
          have c25b0 : (t300 == 2) = true := beq_iff_eq.mpr c25
          have c25b1 : (t300 != 2) = false := bne_eq_false_iff_eq.mpr c25
          clear c25
          by_cases c26 : t301 = 2
          ·rw [if_pos c26] at H
           have c26b0 : (t301 == 2) = true := beq_iff_eq.mpr c26
           have c26b1 : (t301 != 2) = false := bne_eq_false_iff_eq.mpr c26
           clear c26
           have H' := Aside0.mk H
           clear H
           go_wp2
           go_meet
           case rel => exact ⟨_, (false), (by first | rfl | (simp; done) | (simp [*]; done)), H', ⟨by first | omega | exact Nat.le_refl _⟩, ⟨by repeat (first | (with_reducible first | exact HB.out | apply below_alloc | apply pw_below_drewN | apply below_drew1) | exact HB.out)⟩⟩
          ·rw [if_neg c26] at H
           have c26b0 : (t301 == 2) = false := beq_eq_false_iff_ne.mpr c26
           have c26b1 : (t301 != 2) = true := bne_iff_ne.mpr c26
           have H' := Aside0.mk H
           clear H
           go_wp2
           go_meet
           case rel => exact ⟨_, (true), (by first | rfl | (simp; done) | (simp [*]; done)), H', ⟨by first | omega | exact Nat.le_refl _⟩, ⟨by repeat (first | (with_reducible first | exact HB.out | apply below_alloc | apply pw_below_drewN | apply below_drew1) | exact HB.out)⟩⟩
         ·rw [if_neg c25] at H
          have c25b0 : (t300 == 2) = false := beq_eq_false_iff_ne.mpr c25
          have c25b1 : (t300 != 2) = true := bne_iff_ne.mpr c25
          have H' := Aside0.mk H
          clear H
          go_wp2
          go_meet
          case rel => exact ⟨_, ((t301 != (wrap64 (-t300)))), (by first | rfl | (simp; done) | (simp [*]; done)), H', ⟨by first | omega | exact Nat.le_refl _⟩, ⟨by repeat (first | (with_reducible first | exact HB.out | apply below_alloc | apply pw_below_drewN | apply below_drew1) | exact HB.out)⟩⟩
        ·rw [if_neg c24] at H
         have c24b0 : (t296 == t298) = false := beq_eq_false_iff_ne.mpr c24
         have c24b1 : (t296 != t298) = true := bne_iff_ne.mpr c24
         have H' := Aside0.mk H
         clear H
         go_wp2
         go_meet
         case rel => exact ⟨_, (true), (by first | rfl | (simp; done) | (simp [*]; done)), H', ⟨by first | omega | exact Nat.le_refl _⟩, ⟨by repeat (first | (with_reducible first | exact HB.out | apply below_alloc | apply pw_below_drewN | apply below_drew1) | exact HB.out)⟩⟩
       ·rw [if_neg c23] at H
        have c23b0 : (t292 == t294) = false := beq_eq_false_iff_ne.mpr c23
        have c23b1 : (t292 != t294) = true := bne_iff_ne.mpr c23
        have H' := Aside0.mk H
        clear H
        go_wp2
        go_meet
        case rel => exact ⟨_, (true), (by first | rfl | (simp; done) | (simp [*]; done)), H', ⟨by first | omega | exact Nat.le_refl _⟩, ⟨by repeat (first | (with_reducible first | exact HB.out | apply below_alloc | apply pw_below_drewN | apply below_drew1) | exact HB.out)⟩⟩
      ·rw [if_neg c22] at H
       have c22b0 : (t299 == 0) = false := beq_eq_false_iff_ne.mpr c22
       have c22b1 : (t299 != 0) = true := bne_iff_ne.mpr c22
       have H' := Aside0.mk H
       clear H
       go_wp2
       go_meet
       case rel => exact ⟨_, (true), (by first | rfl | (simp; done) | (simp [*]; done)), H', ⟨by first | omega | exact Nat.le_refl _⟩, ⟨by repeat (first | (with_reducible first | exact HB.out | apply below_alloc | apply pw_below_drewN | apply below_drew1) | exact HB.out)⟩⟩
     ·rw [if_neg c21] at H
      have c21b0 : (t297 == 0) = false := beq_eq_false_iff_ne.mpr c21
      have c21b1 : (t297 != 0) = true := bne_iff_ne.mpr c21
      have H' := Aside0.mk H
      clear H
      go_wp2
      go_meet
      case rel => exact ⟨_, (true), (by first | rfl | (simp; done) | (simp [*]; done)), H', ⟨by first | omega | exact Nat.le_refl _⟩, ⟨by repeat (first | (with_reducible first | exact HB.out | apply below_alloc | apply pw_below_drewN | apply below_drew1) | exact HB.out)⟩⟩
    ·rw [if_neg c20] at H
     have c20b0 : (t295 == 0) = false := beq_eq_false_iff_ne.mpr c20
     have c20b1 : (t295 != 0) = true := bne_iff_ne.mpr c20
     have H' := Aside0.mk H
     clear H
     go_wp2
     go_meet
     case rel => exact ⟨_, (true), (by first | rfl | (simp; done) | (simp [*]; done)), H', ⟨by first | omega | exact Nat.le_refl _⟩, ⟨by repeat (first | (with_reducible first | exact HB.out | apply below_alloc | apply pw_below_drewN | apply below_drew1) | exact HB.out)⟩⟩
   ·rw [if_neg c19] at H
    have c19b0 : (t293 == 0) = false := beq_eq_false_iff_ne.mpr c19
    have c19b1 : (t293 != 0) = true := bne_iff_ne.mpr c19
    (first | rw [c19b0] | (simp only [i64_w, i32_w]; rw [c19b0]) | skip)
    have H' := Aside0.mk H
    clear H
    go_wp2
    go_meet
    case rel => exact ⟨_, (true), (by first | rfl | (simp; done) | (simp [*]; done)), H', ⟨by first | omega | exact Nat.le_refl _⟩, ⟨by repeat (first | (with_reducible first | exact HB.out | apply below_alloc | apply pw_below_drewN | apply below_drew1) | exact HB.out)⟩⟩
  case rest =>
   clear HC11
   try clear c1
   try clear c2
   try clear p2
   try clear c3
   try clear c5
   try clear p6
   try clear c7
   try clear c9
   try clear c10
   try clear c11
   try clear c19
   try clear c19b0
   try clear c19b1
   try clear c20
   try clear c20b0
   try clear c20b1
   try clear c21
   try clear c21b0
   try clear c21b1
   try clear c22
   try clear c22b0
   try clear c22b1
   try clear c23
   try clear c23b0
   try clear c23b1
   try clear c24
   try clear c24b0
   try clear c24b1
   try clear c25
   try clear c25b0
   try clear c25b1
   try clear c26
   try clear c26b0
   try clear c26b1
   obtain ⟨kq, x100_10, rfl, HA, HJ10, HB⟩ := hcut
   cases kq with
   | zero => exact absurd HA.out (by simp [laws_FnFloatRules.j0])
   | succ kj10 =>
    have H := HA.out
    clear HA
    simp only [laws_FnFloatRules.j0] at H
    by_cases c27 : x100_10 = true
    ·subst c27
     have H1 : (none) = some r := by rw [if_pos rfl] at H; exact H
     clear H
     have H := H1
     clear H1
     exact absurd H (by simp)
    ·replace c27 := Bool.eq_false_iff.mpr c27
     subst c27
     have H1 : ((impl_FloatOp.f 2 t290 t290).bind fun bt302 => ((impl_FloatOp.f 1 4607182418800017408 4607182418800017408).bind fun bt304 => (if bt304.1 = 4611686018427387904 then ((impl_FloatCmp.f 4607182418800017408 bt304.1).bind fun t306 => (if t306 = (-1) then (if bt302.2 = 0 then (if bt302.1 = 0 then (some true) else (some (bt302.1 == 9221120237041090560))) else (none)) else (none))) else (none)))) = some r := by rw [if_neg (show ¬ (false = true) by decide)] at H; exact H
     clear H
     have H := H1
     clear H1
     replace H := Option.bind_eq_some_iff.mp H
     obtain ⟨⟨t302, t303⟩, A280, H⟩ := H
     replace H : ((impl_FloatOp.f 1 4607182418800017408 4607182418800017408).bind fun bt304 => (if bt304.1 = 4611686018427387904 then ((impl_FloatCmp.f 4607182418800017408 bt304.1).bind fun t306 => (if t306 = (-1) then (if t303 = 0 then (if t302 = 0 then (some true) else (some (t302 == 9221120237041090560))) else (none)) else (none))) else (none))) = some r := H
     have A28 := Aside0.mk A280
     clear A280
     replace H := Option.bind_eq_some_iff.mp H
     obtain ⟨⟨t304, t305⟩, A290, H⟩ := H
     replace H : (if t304 = 4611686018427387904 then ((impl_FloatCmp.f 4607182418800017408 t304).bind fun t306 => (if t306 = (-1) then (if t303 = 0 then (if t302 = 0 then (some true) else (some (t302 == 9221120237041090560))) else (none)) else (none))) else (none)) = some r := H
     have A29 := Aside0.mk A290
     clear A290
     by_cases c30 : t304 = 4611686018427387904
     ·rw [if_pos c30] at H
      have c30b0 : (t304 == 4611686018427387904) = true := beq_iff_eq.mpr c30
      have c30b1 : (t304 != 4611686018427387904) = false := bne_eq_false_iff_eq.mpr c30
      clear c30
      replace H := Option.bind_eq_some_iff.mp H
      obtain ⟨t306, A310, H⟩ := H
      replace H : (if t306 = (-1) then (if t303 = 0 then (if t302 = 0 then (some true) else (some (t302 == 9221120237041090560))) else (none)) else (none)) = some r := H
      have A31 := Aside0.mk A310
      clear A310
      by_cases c32 : t306 = (-1)
      ·rw [if_pos c32] at H
       have c32b0 : (t306 == (-1)) = true := beq_iff_eq.mpr c32
       have c32b1 : (t306 != (-1)) = false := bne_eq_false_iff_eq.mpr c32
       clear c32
       by_cases c33 : t303 = 0
       ·rw [if_pos c33] at H
        have c33b0 : (t303 == 0) = true := beq_iff_eq.mpr c33
        have c33b1 : (t303 != 0) = false := bne_eq_false_iff_eq.mpr c33
        clear c33
        by_cases c34 : t302 = 0
        ·rw [if_pos c34] at H
         have c34b0 : (t302 == 0) = true := beq_iff_eq.mpr c34
         have c34b1 : (t302 != 0) = false := bne_eq_false_iff_eq.mpr c34
         clear c34
         obtain rfl := Option.some.inj H
         go_wp2_with (first | ((with_reducible refine gate_callee (f := 9) rfl ?_); refine goesL_ (some 104) rfl rfl Try.func9 (by kernel_rfl) rfl #[.int .i64 2, .int .u64 t290, .int .u64 t290] rfl (by (try simp only [List.map_toArray, List.map_cons, List.map_nil]); first | done | rfl | (simp only [List.length_drop, List.length_take]; rfl)) ?_; (with_reducible refine (impl_FloatOp.calls 2 t290 t290 t302 t303 _ A28.out).mono ?_); rintro e w35 ⟨rfl, hb⟩; refine ⟨_, rfl, ?_⟩; have n0_ := Aside0.mk (below_step (by repeat (first | (with_reducible first | exact HB.out | apply below_alloc | apply pw_below_drewN | apply below_drew1) | exact HB.out)) hb); clear HB; have HB := n0_; clear n0_; (try clear hb); (try clear hb2); (try clear hk); (try clear hi)) | ((with_reducible refine gate_callee (f := 9) rfl ?_); refine goesL_ (some 110) rfl rfl Try.func9 (by kernel_rfl) rfl #[.int .i64 1, .int .u64 4607182418800017408, .int .u64 4607182418800017408] rfl (by (try simp only [List.map_toArray, List.map_cons, List.map_nil]); first | done | rfl | (simp only [List.length_drop, List.length_take]; rfl)) ?_; (with_reducible refine (impl_FloatOp.calls 1 4607182418800017408 4607182418800017408 t304 t305 _ A29.out).mono ?_); rintro e w36 ⟨rfl, hb⟩; refine ⟨_, rfl, ?_⟩; have n0_ := Aside0.mk (below_step (by repeat (first | (with_reducible first | exact HB.out | apply below_alloc | apply pw_below_drewN | apply below_drew1) | exact HB.out)) hb); clear HB; have HB := n0_; clear n0_; (try clear hb); (try clear hb2); (try clear hk); (try clear hi)) | (go_at_call 7; (with_reducible refine (impl_FloatCmp.calls 4607182418800017408 t304 t306 _ A31.out).mono ?_); rintro e w37 ⟨rfl, hb⟩; have n0_ := Aside0.mk (below_step (by repeat (first | (with_reducible first | exact HB.out | apply below_alloc | apply pw_below_drewN | apply below_drew1) | exact HB.out)) hb); clear HB; have HB := n0_; clear n0_; (try clear hb); (try clear hb2); (try clear hk); (try clear hi)))
         go_ret
         exact ⟨by first | rfl | (simp [errW_none, errW_some] <;> rfl) | (simp [*, errW_none, errW_some] <;> rfl), by repeat (first | (with_reducible first | exact HB.out | apply below_alloc | apply pw_below_drewN | apply below_drew1) | exact HB.out)⟩
        ·rw [if_neg c34] at H
         have c34b0 : (t302 == 0) = false := beq_eq_false_iff_ne.mpr c34
         have c34b1 : (t302 != 0) = true := bne_iff_ne.mpr c34
         obtain rfl := Option.some.inj H
         go_wp2_with (first | ((with_reducible refine gate_callee (f := 9) rfl ?_); refine goesL_ (some 104) rfl rfl Try.func9 (by kernel_rfl) rfl #[.int .i64 2, .int .u64 t290, .int .u64 t290] rfl (by (try simp only [List.map_toArray, List.map_cons, List.map_nil]); first | done | rfl | (simp only [List.length_drop, List.length_take]; rfl)) ?_; (with_reducible refine (impl_FloatOp.calls 2 t290 t290 t302 t303 _ A28.out).mono ?_); rintro e w38 ⟨rfl, hb⟩; refine ⟨_, rfl, ?_⟩; have n0_ := Aside0.mk (below_step (by repeat (first | (with_reducible first | exact HB.out | apply below_alloc | apply pw_below_drewN | apply below_drew1) | exact HB.out)) hb); clear HB; have HB := n0_; clear n0_; (try clear hb); (try clear hb2); (try clear hk); (try clear hi)) | ((with_reducible refine gate_callee (f := 9) rfl ?_); refine goesL_ (some 110) rfl rfl Try.func9 (by kernel_rfl) rfl #[.int .i64 1, .int .u64 4607182418800017408, .int .u64 4607182418800017408] rfl (by (try simp only [List.map_toArray, List.map_cons, List.map_nil]); first | done | rfl | (simp only [List.length_drop, List.length_take]; rfl)) ?_; (with_reducible refine (impl_FloatOp.calls 1 4607182418800017408 4607182418800017408 t304 t305 _ A29.out).mono ?_); rintro e w39 ⟨rfl, hb⟩; refine ⟨_, rfl, ?_⟩; have n0_ := Aside0.mk (below_step (by repeat (first | (with_reducible first | exact HB.out | apply below_alloc | apply pw_below_drewN | apply below_drew1) | exact HB.out)) hb); clear HB; have HB := n0_; clear n0_; (try clear hb); (try clear hb2); (try clear hk); (try clear hi)) | (go_at_call 7; (with_reducible refine (impl_FloatCmp.calls 4607182418800017408 t304 t306 _ A31.out).mono ?_); rintro e w40 ⟨rfl, hb⟩; have n0_ := Aside0.mk (below_step (by repeat (first | (with_reducible first | exact HB.out | apply below_alloc | apply pw_below_drewN | apply below_drew1) | exact HB.out)) hb); clear HB; have HB := n0_; clear n0_; (try clear hb); (try clear hb2); (try clear hk); (try clear hi)))
         go_ret
         exact ⟨by first | rfl | (simp [errW_none, errW_some] <;> rfl) | (simp [*, errW_none, errW_some] <;> rfl), by repeat (first | (with_reducible first | exact HB.out | apply below_alloc | apply pw_below_drewN | apply below_drew1) | exact HB.out)⟩
       ·rw [if_neg c33] at H
        exact absurd H (by simp)
      ·rw [if_neg c32] at H
       exact absurd H (by simp)
     ·rw [if_neg c30] at H
      exact absurd H (by simp)

/-- THE ONE PURE STATEMENT of laws_FnFloatRules: yours. -/
def laws_FnFloatRules.Pure : Prop := ∀ (l0 : List Int), l0.length ≤ maxLen → l0.length * 1 ≤ 140737488351232 → (∀ x ∈ l0, (Lit.int .u8 x).wf = true) → ∃ k, laws_FnFloatRules.f k l0 = some true
theorem laws_FnFloatRules.walk (P : laws_FnFloatRules.Pure) (a0 : Option Addr) (len0 cap0 : Nat) (z0 : List Int) (w : World) (w0 : (a0 = none ∧ len0 = 0 ∧ cap0 = 0 ∧ z0 = []) ∨ ∃ x, a0 = some x ∧ len0 ≤ cap0 ∧ cap0 ≤ maxLen ∧ z0.length = cap0 ∧ (∀ i, i < z0.length → w.cell? (x.add i) = some (.int .u8 (z0.getD i 0))) ∧ ∀ n ∈ z0, (Lit.int .u8 n).wf = true) (y0 : len0 * 1 ≤ 140737488351232) :
  Calls Try.prog 5 #[.slice a0 len0 cap0] w fun e w' => e = .returned (.bool true) ∧ Below w.heap.size w w' := by
 obtain ⟨l0, rfl, hr0, hm0, hw0, hc0⟩ := ReadsInt.ofRowC w0
 obtain ⟨k, h⟩ := P l0 hm0 y0 hw0
 refine (laws_FnFloatRules.calls k _ _ l0 true w (Kd.C_of_reads (d := (0 : Int)) (h1 := fun _ => rfl) hr0) hc0 h).mono ?_
 rintro e w' ⟨rfl, hd⟩
 exact ⟨rfl, hd⟩

end Go.Proofs.Ytghjbadanhplnaa.PF
