/- Go functions as Lean functions, and that each Go function comes to just that; printed by a program of this session (gprint.py over the kit's print.py). No condition. -/
import Derived.Test.YtohilfkdfcihgaaPDix0
import Derived.Test.YtohilfkdfcihgaaPDix9
import Derived.Test.YtohilfkdfcihgaaPDrx1
import Derived.Test.YtohilfkdfcihgaaPDrx3
import Derived.Test.YtohilfkdfcihgaaPDrx4
import Derived.Test.YtohilfkdfcihgaaGRun
import Derived.Test.YtohilfkdfcihgaaPDix1
import Derived.Test.YtohilfkdfcihgaaPDix2
namespace Go.Proofs.Ytohilfkdfcihgaa.PDi
open Go.RowKit Go.Proofs.YtohilfkdfcihgaaW.PrintWords Go.Proofs.YtohilfkdfcihgaaW.PrintLast Go.Proofs.YtohilfkdfcihgaaW.PrintMore
attribute [local go_sem] max2_int min2_int max_two min_two max_three min_three max_four min_four   -- for this text's walks alone
set_option linter.unusedVariables false
set_option linter.unusedSimpArgs false

theorem qdr5_1 {P Q0 : Prop} (y0 : Q0) (h : Q0 → P := by intro y0_; (with_reducible repeat (first | apply Kd.R_alloc | apply Kd.R_drewN | apply Kd.R_drew)); exact y0_.out) : P := h y0
theorem qdr5_2 {P Q0 : Prop} (y0 : Q0) (h : Q0 → P := by intro y0_; repeat (first | (with_reducible first | exact y0_.out | apply below_alloc | apply pw_below_drewN | apply below_drew1) | exact y0_.out)) : P := h y0
theorem qdr5_3 {P Q0 : Prop} (y0 : Q0) (h : Q0 → P := by intro y0_; repeat (first | exact (Kd.R_reads' y0_.out).2.2 | (with_reducible refine Kd.C_alloc ?_ _) | (with_reducible refine Kd.C_drewN ?_ _) | (with_reducible refine Kd.C_drew ?_))) : P := h y0
theorem qdr5_4 {P : Prop} (h : P := by (try simp only [List.map_toArray, List.map_cons, List.map_nil]); first | done | rfl | (simp only [List.length_drop, List.length_take]; rfl)) : P := h
theorem qdr5_5 {P Q0 : Prop} (y0 : Q0) (h : Q0 → P := by intro y0_; repeat (first | exact y0_.out | (with_reducible refine Kd.C_alloc ?_ _) | (with_reducible refine Kd.C_drewN ?_ _) | (with_reducible refine Kd.C_drew ?_))) : P := h y0
/-! ### laws_FnExactDictRun: function 7 -/
def laws_FnExactDictRun.j0 : Nat → List (S86) → List Int → List Int → Bool → Option (Bool)
 | 0, _, _, _, _ => none
 | k + 1, x0, x4, x6, x42 => if x42 = true then (none) else ((laws_markInt64S.f k x6 1).bind fun bt271 => ((laws_heldInt64S.f k bt271.2 1).bind fun t273 => (if t273 < 0 then (none) else (if t273 = bt271.1 then ((laws_toDictOpS.f k x0).bind fun t274 => ((impl_DictRun.f t274).bind fun t277 => ((laws_eqInt64S.f k t277 x4).bind fun t280 => (if t280 = true then ((laws_heldInt64S.f k bt271.2 1).bind fun t281 => (if t281 < 0 then (none) else (if t281 = bt271.1 then (some true) else (none)))) else (none))))) else (none)))))
def laws_FnExactDictRun.f (k : Nat) (l0 : List (S86)) : Option (Bool) := (laws_szDictOpS.f l0 1048576).bind fun t250 => (if t250 < 0 then (some true) else ((laws_toDictOpS.f k l0).bind fun t251 => ((spec_DictRun.f k t251).bind fun t254 => ((laws_toDictOpS.f k l0).bind fun t257 => ((impl_DictRun.f t257).bind fun t260 => ((laws_eqInt64S.f k t260 t254).bind fun t263 => (if t263 = true then ((laws_toDictOpS.f k l0).bind fun t264 => ((laws_eqDictOpS.f k t257 t264).bind fun t267 => (if t267 = true then ((laws_markDictOpS.f k t257 1).bind fun bt268 => (if bt268.1 < 0 then (laws_FnExactDictRun.j0 k l0 t254 t260 true) else ((laws_eqInt64S.f k t260 t254).bind fun t270 => (laws_FnExactDictRun.j0 k l0 t254 t260 (!t270))))) else (none)))) else (none))))))))
theorem laws_FnExactDictRun.mono_l : ∀ k, (∀ y0 y1 y2 y3, LeO (laws_FnExactDictRun.j0 k y0 y1 y2 y3) (laws_FnExactDictRun.j0 (k + 1) y0 y1 y2 y3))
 | 0 => fun _ _ _ _ r h => by simp [laws_FnExactDictRun.j0] at h
 | k + 1 => by
  have ih0 := laws_FnExactDictRun.mono_l k
  ·intro y0 y1 y2 y3
   unfold laws_FnExactDictRun.j0
   repeat' first
   | (with_reducible exact ih0 _ _ _ _)
   | (with_reducible exact laws_eqDictOpS.mono _ _ _)
   | (with_reducible exact laws_eqInt64S.mono _ _ _)
   | (with_reducible exact laws_heldInt64S.mono _ _ _)
   | (with_reducible exact laws_markDictOpS.mono _ _ _)
   | (with_reducible exact laws_markInt64S.mono _ _ _)
   | (with_reducible exact laws_toDictOpS.mono _ _)
   | (with_reducible exact spec_DictRun.mono _ _)
   | (with_reducible exact LeO.refl _)
   | (with_reducible exact LeO.none _)
   | (with_reducible refine LeO.ite ?_ ?_)
   | (with_reducible refine LeO.bind ?_ (fun _ => ?_))
   | exact ih0 _ _ _ _
   | exact laws_eqDictOpS.mono _ _ _
   | exact laws_eqInt64S.mono _ _ _
   | exact laws_heldInt64S.mono _ _ _
   | exact laws_markDictOpS.mono _ _ _
   | exact laws_markInt64S.mono _ _ _
   | exact laws_toDictOpS.mono _ _
   | exact spec_DictRun.mono _ _
   | exact LeO.none _
   | refine LeO.ite ?_ ?_
   | refine LeO.bind ?_ (fun _ => ?_)
theorem laws_FnExactDictRun.mono : ∀ a0 k, LeO (laws_FnExactDictRun.f k a0) (laws_FnExactDictRun.f (k + 1) a0) := by
 intro a0 k
 have ih0 := laws_FnExactDictRun.mono_l k
 unfold laws_FnExactDictRun.f
 repeat' first
   | (with_reducible exact ih0 _ _ _ _)
   | (with_reducible exact laws_eqDictOpS.mono _ _ _)
   | (with_reducible exact laws_eqInt64S.mono _ _ _)
   | (with_reducible exact laws_heldInt64S.mono _ _ _)
   | (with_reducible exact laws_markDictOpS.mono _ _ _)
   | (with_reducible exact laws_markInt64S.mono _ _ _)
   | (with_reducible exact laws_toDictOpS.mono _ _)
   | (with_reducible exact spec_DictRun.mono _ _)
   | (with_reducible exact LeO.refl _)
   | (with_reducible exact LeO.none _)
   | (with_reducible refine LeO.ite ?_ ?_)
   | (with_reducible refine LeO.bind ?_ (fun _ => ?_))
   | exact ih0 _ _ _ _
   | exact laws_eqDictOpS.mono _ _ _
   | exact laws_eqInt64S.mono _ _ _
   | exact laws_heldInt64S.mono _ _ _
   | exact laws_markDictOpS.mono _ _ _
   | exact laws_markInt64S.mono _ _ _
   | exact laws_toDictOpS.mono _ _
   | exact spec_DictRun.mono _ _
   | exact LeO.none _
   | refine LeO.ite ?_ ?_
   | refine LeO.bind ?_ (fun _ => ?_)
set_option maxHeartbeats 8000000 in
set_option maxRecDepth 100000 in
theorem laws_FnExactDictRun.calls (k : Nat) (A0 : Option Addr) (c0 : Nat) (l0 : List (S86)) (r : Bool) (w : World) (hr0 : Kd.C k86 w A0 l0.length l0) (hc0 : l0.length ≤ c0) (h : laws_FnExactDictRun.f k l0 = some r) :
  Calls Try.prog 7 #[.slice A0 l0.length c0] w fun e w' => e = .returned (.bool r) ∧ Below w.heap.size w w' := by
 have HR0 := Aside0.mk hr0
 have HC0 := Aside0.mk hc0
 clear hr0 hc0
 have HB := Aside0.mk (Below.refl w.heap.size w)
 have H : ((laws_szDictOpS.f l0 1048576).bind fun t250 => (if t250 < 0 then (some true) else ((laws_toDictOpS.f k l0).bind fun t251 => ((spec_DictRun.f k t251).bind fun t254 => ((laws_toDictOpS.f k l0).bind fun t257 => ((impl_DictRun.f t257).bind fun t260 => ((laws_eqInt64S.f k t260 t254).bind fun t263 => (if t263 = true then ((laws_toDictOpS.f k l0).bind fun t264 => ((laws_eqDictOpS.f k t257 t264).bind fun t267 => (if t267 = true then ((laws_markDictOpS.f k t257 1).bind fun bt268 => (if bt268.1 < 0 then (laws_FnExactDictRun.j0 k l0 t254 t260 true) else ((laws_eqInt64S.f k t260 t254).bind fun t270 => (laws_FnExactDictRun.j0 k l0 t254 t260 (!t270))))) else (none)))) else (none))))))))) = some r := h
 clear h
 replace H := Option.bind_eq_some_iff.mp H
 obtain ⟨t250, A20, H⟩ := H
 replace H : (if t250 < 0 then (some true) else ((laws_toDictOpS.f k l0).bind fun t251 => ((spec_DictRun.f k t251).bind fun t254 => ((laws_toDictOpS.f k l0).bind fun t257 => ((impl_DictRun.f t257).bind fun t260 => ((laws_eqInt64S.f k t260 t254).bind fun t263 => (if t263 = true then ((laws_toDictOpS.f k l0).bind fun t264 => ((laws_eqDictOpS.f k t257 t264).bind fun t267 => (if t267 = true then ((laws_markDictOpS.f k t257 1).bind fun bt268 => (if bt268.1 < 0 then (laws_FnExactDictRun.j0 k l0 t254 t260 true) else ((laws_eqInt64S.f k t260 t254).bind fun t270 => (laws_FnExactDictRun.j0 k l0 t254 t260 (!t270))))) else (none)))) else (none)))))))) = some r := H
 have A2 := Aside0.mk A20
 clear A20
 by_cases c3 : t250 < 0
 ·rw [if_pos c3] at H
  have c3b0 : decide (t250 < 0) = true := decide_eq_true c3
  clear c3
  obtain rfl := Option.some.inj H
  go_enter Try.func7, Try.ntmps7
  go_wp2_with (first | ((with_reducible refine gate_callee (f := 25) rfl ?_); refine goesL_ (some 13) rfl rfl Try.func25 (by kernel_rfl) rfl #[.slice A0 l0.length c0, .int .i64 1048576] rfl qdr5_4 ?_; (with_reducible refine (laws_szDictOpS.calls _ _ l0 1048576 t250 _ ?side1 ?side2 A2.out).mono ?_); (case side1 => exact (qdr5_5 HR0)); (case side2 => exact HC0.out); rintro e w' ⟨rfl, ⟨nd, rfl⟩⟩; refine ⟨_, rfl, ?_⟩))
  go_ret
  exact ⟨by first | rfl | (simp [errW_none, errW_some] <;> rfl) | (simp [*, errW_none, errW_some] <;> rfl), by repeat (first | (with_reducible first | exact HB.out | apply below_alloc | apply pw_below_drewN | apply below_drew1) | exact HB.out)⟩
 ·rw [if_neg c3] at H
  have c3b0 : decide (t250 < 0) = false := decide_eq_false c3
  clear c3
  replace H := Option.bind_eq_some_iff.mp H
  obtain ⟨t251, A40, H⟩ := H
  replace H : ((spec_DictRun.f k t251).bind fun t254 => ((laws_toDictOpS.f k l0).bind fun t257 => ((impl_DictRun.f t257).bind fun t260 => ((laws_eqInt64S.f k t260 t254).bind fun t263 => (if t263 = true then ((laws_toDictOpS.f k l0).bind fun t264 => ((laws_eqDictOpS.f k t257 t264).bind fun t267 => (if t267 = true then ((laws_markDictOpS.f k t257 1).bind fun bt268 => (if bt268.1 < 0 then (laws_FnExactDictRun.j0 k l0 t254 t260 true) else ((laws_eqInt64S.f k t260 t254).bind fun t270 => (laws_FnExactDictRun.j0 k l0 t254 t260 (!t270))))) else (none)))) else (none)))))) = some r := H
  have A4 := Aside0.mk A40
  clear A40
  replace H := Option.bind_eq_some_iff.mp H
  obtain ⟨t254, A50, H⟩ := H
  replace H : ((laws_toDictOpS.f k l0).bind fun t257 => ((impl_DictRun.f t257).bind fun t260 => ((laws_eqInt64S.f k t260 t254).bind fun t263 => (if t263 = true then ((laws_toDictOpS.f k l0).bind fun t264 => ((laws_eqDictOpS.f k t257 t264).bind fun t267 => (if t267 = true then ((laws_markDictOpS.f k t257 1).bind fun bt268 => (if bt268.1 < 0 then (laws_FnExactDictRun.j0 k l0 t254 t260 true) else ((laws_eqInt64S.f k t260 t254).bind fun t270 => (laws_FnExactDictRun.j0 k l0 t254 t260 (!t270))))) else (none)))) else (none))))) = some r := H
  have A5 := Aside0.mk A50
  clear A50
  replace H := Option.bind_eq_some_iff.mp H
  obtain ⟨t257, A60, H⟩ := H
  replace H : ((impl_DictRun.f t257).bind fun t260 => ((laws_eqInt64S.f k t260 t254).bind fun t263 => (if t263 = true then ((laws_toDictOpS.f k l0).bind fun t264 => ((laws_eqDictOpS.f k t257 t264).bind fun t267 => (if t267 = true then ((laws_markDictOpS.f k t257 1).bind fun bt268 => (if bt268.1 < 0 then (laws_FnExactDictRun.j0 k l0 t254 t260 true) else ((laws_eqInt64S.f k t260 t254).bind fun t270 => (laws_FnExactDictRun.j0 k l0 t254 t260 (!t270))))) else (none)))) else (none)))) = some r := H
  have A6 := Aside0.mk A60
  clear A60
  replace H := Option.bind_eq_some_iff.mp H
  obtain ⟨t260, A70, H⟩ := H
  replace H : ((laws_eqInt64S.f k t260 t254).bind fun t263 => (if t263 = true then ((laws_toDictOpS.f k l0).bind fun t264 => ((laws_eqDictOpS.f k t257 t264).bind fun t267 => (if t267 = true then ((laws_markDictOpS.f k t257 1).bind fun bt268 => (if bt268.1 < 0 then (laws_FnExactDictRun.j0 k l0 t254 t260 true) else ((laws_eqInt64S.f k t260 t254).bind fun t270 => (laws_FnExactDictRun.j0 k l0 t254 t260 (!t270))))) else (none)))) else (none))) = some r := H
  have A7 := Aside0.mk A70
  clear A70
  replace H := Option.bind_eq_some_iff.mp H
  obtain ⟨t263, A80, H⟩ := H
  replace H : (if t263 = true then ((laws_toDictOpS.f k l0).bind fun t264 => ((laws_eqDictOpS.f k t257 t264).bind fun t267 => (if t267 = true then ((laws_markDictOpS.f k t257 1).bind fun bt268 => (if bt268.1 < 0 then (laws_FnExactDictRun.j0 k l0 t254 t260 true) else ((laws_eqInt64S.f k t260 t254).bind fun t270 => (laws_FnExactDictRun.j0 k l0 t254 t260 (!t270))))) else (none)))) else (none)) = some r := H
  have A8 := Aside0.mk A80
  clear A80
  by_cases c9 : t263 = true
  ·subst c9
   have H1 : ((laws_toDictOpS.f k l0).bind fun t264 => ((laws_eqDictOpS.f k t257 t264).bind fun t267 => (if t267 = true then ((laws_markDictOpS.f k t257 1).bind fun bt268 => (if bt268.1 < 0 then (laws_FnExactDictRun.j0 k l0 t254 t260 true) else ((laws_eqInt64S.f k t260 t254).bind fun t270 => (laws_FnExactDictRun.j0 k l0 t254 t260 (!t270))))) else (none)))) = some r := by rw [if_pos rfl] at H; exact H
   clear H
   have H := H1
   clear H1
   replace H := Option.bind_eq_some_iff.mp H
   obtain ⟨t264, A100, H⟩ := H
   replace H : ((laws_eqDictOpS.f k t257 t264).bind fun t267 => (if t267 = true then ((laws_markDictOpS.f k t257 1).bind fun bt268 => (if bt268.1 < 0 then (laws_FnExactDictRun.j0 k l0 t254 t260 true) else ((laws_eqInt64S.f k t260 t254).bind fun t270 => (laws_FnExactDictRun.j0 k l0 t254 t260 (!t270))))) else (none))) = some r := H
   have A10 := Aside0.mk A100
   clear A100
   replace H := Option.bind_eq_some_iff.mp H
   obtain ⟨t267, A110, H⟩ := H
   replace H : (if t267 = true then ((laws_markDictOpS.f k t257 1).bind fun bt268 => (if bt268.1 < 0 then (laws_FnExactDictRun.j0 k l0 t254 t260 true) else ((laws_eqInt64S.f k t260 t254).bind fun t270 => (laws_FnExactDictRun.j0 k l0 t254 t260 (!t270))))) else (none)) = some r := H
   have A11 := Aside0.mk A110
   clear A110
   by_cases c12 : t267 = true
   ·subst c12
    have H1 : ((laws_markDictOpS.f k t257 1).bind fun bt268 => (if bt268.1 < 0 then (laws_FnExactDictRun.j0 k l0 t254 t260 true) else ((laws_eqInt64S.f k t260 t254).bind fun t270 => (laws_FnExactDictRun.j0 k l0 t254 t260 (!t270))))) = some r := by rw [if_pos rfl] at H; exact H
    clear H
    have H := H1
    clear H1
    replace H := Option.bind_eq_some_iff.mp H
    obtain ⟨⟨t268, t269⟩, A130, H⟩ := H
    replace H : (if t268 < 0 then (laws_FnExactDictRun.j0 k l0 t254 t260 true) else ((laws_eqInt64S.f k t260 t254).bind fun t270 => (laws_FnExactDictRun.j0 k l0 t254 t260 (!t270)))) = some r := H
    have A13 := Aside0.mk A130
    clear A130
    have HC14 := Aside0.mk H
    clear H
    go_enter Try.func7, Try.ntmps7
    go_upto_region 14 with (first | ((with_reducible refine gate_callee (f := 25) rfl ?_); refine goesL_ (some 13) rfl rfl Try.func25 (by kernel_rfl) rfl #[.slice A0 l0.length c0, .int .i64 1048576] rfl qdr5_4 ?_; (with_reducible refine (laws_szDictOpS.calls _ _ l0 1048576 t250 _ ?side1 ?side2 A2.out).mono ?_); (case side1 => exact (qdr5_5 HR0)); (case side2 => exact HC0.out); rintro e w' ⟨rfl, ⟨nd, rfl⟩⟩; refine ⟨_, rfl, ?_⟩) | ((with_reducible refine gate_callee (f := 27) rfl ?_); refine goesL_ (some 17) rfl rfl Try.func27 (by kernel_rfl) rfl #[.slice A0 l0.length c0] rfl qdr5_4 ?_; (with_reducible refine (laws_toDictOpS.calls k _ _ l0 t251 _ ?side1 ?side2 A4.out).mono ?_); (case side1 => exact (qdr5_5 HR0)); (case side2 => exact HC0.out); rintro e w15 ⟨v252, rfl, ho0, hb⟩; refine ⟨_, rfl, ?_⟩; have n0_ := Aside0.mk (Kd.R_lower ho0 (below_size (qdr5_2 HB))); have n1_ := Aside0.mk (below_step (qdr5_2 HB) hb); clear HB; have HO253 := n0_; have HB := n1_; clear n0_ n1_; (try clear hb); (try clear hb2); (try clear hk); (try clear hi); (try clear ho0); obtain ⟨Ao16, co16, eo16⟩ := Kd.R_slice HO253.out; subst eo16) | ((with_reducible refine gate_callee (f := 26) rfl ?_); refine goesL_ (some 18) rfl rfl Try.func26 (by kernel_rfl) rfl #[.slice Ao16 t251.length co16] rfl qdr5_4 ?_; (with_reducible refine (spec_DictRun.calls k _ _ t251 t254 _ ?side1 ?side2 A5.out).mono ?_); (case side1 => exact (qdr5_3 HO253)); (case side2 => exact (Kd.R_reads' HO253.out).2.1); rintro e w17 ⟨v255, rfl, ho0, hb⟩; refine ⟨_, rfl, ?_⟩; have n0_ := Aside0.mk (Kd.R_below (qdr5_1 HO253) hb); have n1_ := Aside0.mk (Kd.R_lower ho0 (below_size (qdr5_2 HB))); have n2_ := Aside0.mk (below_step (qdr5_2 HB) hb); clear HO253; clear HB; have HO253 := n0_; have HO256 := n1_; have HB := n2_; clear n0_ n1_ n2_; (try clear hb); (try clear hb2); (try clear hk); (try clear hi); (try clear ho0)) | ((with_reducible refine gate_callee (f := 27) rfl ?_); refine goesL_ (some 20) rfl rfl Try.func27 (by kernel_rfl) rfl #[.slice A0 l0.length c0] rfl qdr5_4 ?_; (with_reducible refine (laws_toDictOpS.calls k _ _ l0 t257 _ ?side1 ?side2 A6.out).mono ?_); (case side1 => exact (by repeat (first | exact (Kd.C_below HR0.out HB.out) | (with_reducible refine Kd.C_alloc ?_ _) | (with_reducible refine Kd.C_drewN ?_ _) | (with_reducible refine Kd.C_drew ?_)))); (case side2 => exact HC0.out); rintro e w18 ⟨v258, rfl, ho0, hb⟩; refine ⟨_, rfl, ?_⟩; have n0_ := Aside0.mk (Kd.R_elder' (qdr5_1 HO253) (Kd.R_base ho0) hb); have n1_ := Aside0.mk (Kd.R_below (qdr5_1 HO256) hb); have n2_ := Aside0.mk (Kd.R_lower (Kd.R_new' ho0 (Kd.R_lt (qdr5_1 HO253))) (below_size (qdr5_2 HB))); have n3_ := Aside0.mk (below_step (qdr5_2 HB) hb); clear HO253; clear HO256; clear HB; have HO253 := n0_; have HO256 := n1_; have HO259 := n2_; have HB := n3_; clear n0_ n1_ n2_ n3_; (try clear hb); (try clear hb2); (try clear hk); (try clear hi); (try clear ho0); obtain ⟨Ao19, co19, eo19⟩ := Kd.R_slice HO259.out; subst eo19) | ((with_reducible refine gate_callee (f := 18) rfl ?_); refine goesL_ (some 22) rfl rfl Try.func18 (by kernel_rfl) rfl #[.slice Ao19 t257.length co19] rfl qdr5_4 ?_; (with_reducible refine (impl_DictRun.calls _ _ t257 t260 _ ?side1 ?side2 A7.out).mono ?_); (case side1 => exact (qdr5_3 HO259)); (case side2 => exact (Kd.R_reads' HO259.out).2.1); rintro e w20 ⟨v261, rfl, ho0, hb⟩; refine ⟨_, rfl, ?_⟩; have n0_ := Aside0.mk (Kd.R_below (qdr5_1 HO253) hb); have n1_ := Aside0.mk (Kd.R_elder' (qdr5_1 HO256) (Kd.R_base ho0) hb); have n2_ := Aside0.mk (Kd.R_below (qdr5_1 HO259) hb); have n3_ := Aside0.mk (Kd.R_lower (Kd.R_new' ho0 (Kd.R_lt (qdr5_1 HO256))) (below_size (qdr5_2 HB))); have n4_ := Aside0.mk (below_step (qdr5_2 HB) hb); clear HO253; clear HO256; clear HO259; clear HB; have HO253 := n0_; have HO256 := n1_; have HO259 := n2_; have HO262 := n3_; have HB := n4_; clear n0_ n1_ n2_ n3_ n4_; (try clear hb); (try clear hb2); (try clear hk); (try clear hi); (try clear ho0); obtain ⟨Ao21, co21, eo21⟩ := Kd.R_slice HO262.out; subst eo21; obtain ⟨Ao22, co22, eo22⟩ := Kd.R_slice HO256.out; subst eo22) | ((with_reducible refine gate_callee (f := 28) rfl ?_); refine goesL_ (some 25) rfl rfl Try.func28 (by kernel_rfl) rfl #[.slice Ao21 t260.length co21, .slice Ao22 t254.length co22] rfl qdr5_4 ?_; (with_reducible refine (laws_eqInt64S.calls k _ _ t260 _ _ t254 true _ ?side1 ?side2 ?side3 ?side4 A8.out).mono ?_); (case side1 => exact (qdr5_3 HO262)); (case side2 => exact (Kd.R_reads' HO262.out).2.1); (case side3 => exact (qdr5_3 HO256)); (case side4 => exact (Kd.R_reads' HO256.out).2.1); rintro e w' ⟨rfl, ⟨nd, rfl⟩⟩; refine ⟨_, rfl, ?_⟩) | ((with_reducible refine gate_callee (f := 27) rfl ?_); refine goesL_ (some 29) rfl rfl Try.func27 (by kernel_rfl) rfl #[.slice A0 l0.length c0] rfl qdr5_4 ?_; (with_reducible refine (laws_toDictOpS.calls k _ _ l0 t264 _ ?side1 ?side2 A10.out).mono ?_); (case side1 => exact (by repeat (first | exact (Kd.C_below HR0.out (qdr5_2 HB)) | (with_reducible refine Kd.C_alloc ?_ _) | (with_reducible refine Kd.C_drewN ?_ _) | (with_reducible refine Kd.C_drew ?_)))); (case side2 => exact HC0.out); rintro e w23 ⟨v265, rfl, ho0, hb⟩; refine ⟨_, rfl, ?_⟩; have n0_ := Aside0.mk (Kd.R_elder' (qdr5_1 HO253) (Kd.R_base ho0) hb); have n1_ := Aside0.mk (Kd.R_below (qdr5_1 HO256) hb); have n2_ := Aside0.mk (Kd.R_elder' (qdr5_1 HO259) (Kd.R_base ho0) hb); have n3_ := Aside0.mk (Kd.R_below (qdr5_1 HO262) hb); have n4_ := Aside0.mk (Kd.R_lower (Kd.R_new' (Kd.R_new' ho0 (Kd.R_lt (qdr5_1 HO253))) (Kd.R_lt (qdr5_1 HO259))) (below_size (qdr5_2 HB))); have n5_ := Aside0.mk (below_step (qdr5_2 HB) hb); clear HO253; clear HO256; clear HO259; clear HO262; clear HB; have HO253 := n0_; have HO256 := n1_; have HO259 := n2_; have HO262 := n3_; have HO266 := n4_; have HB := n5_; clear n0_ n1_ n2_ n3_ n4_ n5_; (try clear hb); (try clear hb2); (try clear hk); (try clear hi); (try clear ho0); obtain ⟨Ao24, co24, eo24⟩ := Kd.R_slice HO266.out; subst eo24) | ((with_reducible refine gate_callee (f := 29) rfl ?_); refine goesL_ (some 30) rfl rfl Try.func29 (by kernel_rfl) rfl #[.slice Ao19 t257.length co19, .slice Ao24 t264.length co24] rfl qdr5_4 ?_; (with_reducible refine (laws_eqDictOpS.calls k _ _ t257 _ _ t264 true _ ?side1 ?side2 ?side3 ?side4 A11.out).mono ?_); (case side1 => exact (qdr5_3 HO259)); (case side2 => exact (Kd.R_reads' HO259.out).2.1); (case side3 => exact (qdr5_3 HO266)); (case side4 => exact (Kd.R_reads' HO266.out).2.1); rintro e w25 ⟨rfl, hb⟩; refine ⟨_, rfl, ?_⟩; have n0_ := Aside0.mk (Kd.R_below (qdr5_1 HO253) hb); have n1_ := Aside0.mk (Kd.R_below (qdr5_1 HO256) hb); have n2_ := Aside0.mk (Kd.R_below (qdr5_1 HO259) hb); have n3_ := Aside0.mk (Kd.R_below (qdr5_1 HO262) hb); have n4_ := Aside0.mk (Kd.R_below (qdr5_1 HO266) hb); have n5_ := Aside0.mk (below_step (qdr5_2 HB) hb); clear HO253; clear HO256; clear HO259; clear HO262; clear HO266; clear HB; have HO253 := n0_; have HO256 := n1_; have HO259 := n2_; have HO262 := n3_; have HO266 := n4_; have HB := n5_; clear n0_ n1_ n2_ n3_ n4_ n5_; (try clear hb); (try clear hb2); (try clear hk); (try clear hi)) | ((with_reducible refine gate_callee (f := 30) rfl ?_); refine goesL_ (some 34) rfl rfl Try.func30 (by kernel_rfl) rfl #[.slice Ao19 t257.length co19, .int .i64 1] rfl qdr5_4 ?_; (with_reducible refine (laws_markDictOpS.calls k (fun k_ => some k_ = (.slice Ao19 t257.length co19 : Value).ownBlock) (.slice Ao19 t257.length co19) t257 1 t268 t269 w _ ?side1 ?side2 A13.out).mono ?_); (case side1 => exact (qdr5_2 HB)); (case side2 => exact Kd.R_tight rfl HO259.out); rintro e w26 ⟨rfl, hy0, hb, hkp⟩; refine ⟨_, rfl, ?_⟩; have n0_ := Aside0.mk (Kd.R_mono (ok' := fun k_ => some k_ ≠ (.slice Ao19 t257.length co19 : Value).ownBlock ∧ some k_ ≠ (.slice Ao24 t264.length co24 : Value).ownBlock) (Kd.R_keptB (HO253.out) hkp (fun k_ hk_ hs_ => (hk_.1.2) hs_)) (fun k_ hk_ => ⟨hk_.1.1.2, hk_.1.2⟩)); have n1_ := Aside0.mk (Kd.R_mono (ok' := fun k_ => some k_ ≠ (.slice Ao21 t260.length co21 : Value).ownBlock) (Kd.R_keptB ((Kd.R_apart' HO256.out (Kd.R_typed HO259.out) (by decide))) hkp (fun k_ hk_ hs_ => (hk_.2) hs_)) (fun k_ hk_ => hk_.1.1.2)); have n2_ := Aside0.mk (Kd.R_reok rfl hy0 (fun k_ e_ => HO259.out.1 k_ e_)); have n3_ := Aside0.mk (Kd.R_mono (ok' := fun k_ => some k_ ≠ (.slice Ao22 t254.length co22 : Value).ownBlock) (Kd.R_keptB ((Kd.R_apart' HO262.out (Kd.R_typed HO259.out) (by decide))) hkp (fun k_ hk_ hs_ => (hk_.2) hs_)) (fun k_ hk_ => hk_.1.1.2)); have n4_ := Aside0.mk (Kd.R_mono (ok' := fun k_ => some k_ ≠ (.slice Ao16 t251.length co16 : Value).ownBlock ∧ some k_ ≠ (.slice Ao19 t257.length co19 : Value).ownBlock) (Kd.R_keptB (HO266.out) hkp (fun k_ hk_ hs_ => (hk_.2) hs_)) (fun k_ hk_ => ⟨hk_.1.1.2, hk_.1.2⟩)); have n5_ := Aside0.mk (hb); clear HO253; clear HO256; clear HO259; clear HO262; clear HO266; clear HB; have HO253 := n0_; have HO256 := n1_; have HO259 := n2_; have HO262 := n3_; have HO266 := n4_; have HB := n5_; clear n0_ n1_ n2_ n3_ n4_ n5_; (try clear hb); (try clear hkp); (try clear hy0)))
    (try simp only [Act.put, List.setIfInBounds_toArray, List.set_cons_zero, List.set_cons_succ])
    go_cut [42] (fun v42 wc => ∃ (kq : Nat) (x42_13 : Bool), v42 = .bool x42_13 ∧ Aside0 (laws_FnExactDictRun.j0 kq l0 t254 t260 x42_13 = some r) ∧ Aside0 (kq ≤ k) ∧ Aside0 (Kd.R (Kd.int .i64) 2 wc w.heap.size (fun k_ => some k_ ≠ ((.slice Ao21 t260.length co21) : Value).ownBlock) (.slice Ao22 t254.length co22) t254) ∧ Aside0 (Kd.R (Kd.int .i64) 2 wc w.heap.size (fun k_ => some k_ ≠ ((.slice Ao22 t254.length co22) : Value).ownBlock) (.slice Ao21 t260.length co21) t260) ∧ Aside0 (Below w.heap.size w wc))
    case first =>
     have H := HC14.out
     clear HC14
     by_cases c27 : t268 < 0
     ·rw [if_pos c27] at H
      have c27b0 : decide (t268 < 0) = true := decide_eq_true c27
      clear c27
      (first | rw [c27b0] | (simp only [i64_w, i32_w]; rw [c27b0]) | skip)
      have H' := Aside0.mk H
      clear H
      go_wp2
      go_meet
      case rel => exact ⟨_, (true), (by first | rfl | (simp; done) | (simp [*]; done)), H', ⟨by first | omega | exact Nat.le_refl _⟩, ⟨by (with_reducible repeat (first | apply Kd.R_alloc | apply Kd.R_drewN | apply Kd.R_drew)); exact HO256.out⟩, ⟨by (with_reducible repeat (first | apply Kd.R_alloc | apply Kd.R_drewN | apply Kd.R_drew)); exact HO262.out⟩, ⟨by repeat (first | (with_reducible first | exact HB.out | apply below_alloc | apply pw_below_drewN | apply below_drew1) | exact HB.out)⟩⟩
     ·rw [if_neg c27] at H
      have c27b0 : decide (t268 < 0) = false := decide_eq_false c27
      clear c27
      (first | rw [c27b0] | (simp only [i64_w, i32_w]; rw [c27b0]) | skip)
      replace H := Option.bind_eq_some_iff.mp H
      obtain ⟨t270, A280, H⟩ := H
      replace H : (laws_FnExactDictRun.j0 k l0 t254 t260 (!t270)) = some r := H
      have A28 := Aside0.mk A280
      clear A280
      have H' := Aside0.mk H
      clear H
      go_wp2_with (first | (go_at_call 28; (with_reducible refine (laws_eqInt64S.calls k _ _ t260 _ _ t254 t270 _ ?side1 ?side2 ?side3 ?side4 A28.out).mono ?_); (case side1 => exact (qdr5_3 HO262)); (case side2 => exact (Kd.R_reads' HO262.out).2.1); (case side3 => exact (qdr5_3 HO256)); (case side4 => exact (Kd.R_reads' HO256.out).2.1); rintro e w' ⟨rfl, ⟨nd, rfl⟩⟩))
      go_meet
      case rel => exact ⟨_, (!t270), (by first | rfl | (simp; done) | (simp [*]; done)), H', ⟨by first | omega | exact Nat.le_refl _⟩, ⟨by (with_reducible repeat (first | apply Kd.R_alloc | apply Kd.R_drewN | apply Kd.R_drew)); exact HO256.out⟩, ⟨by (with_reducible repeat (first | apply Kd.R_alloc | apply Kd.R_drewN | apply Kd.R_drew)); exact HO262.out⟩, ⟨by repeat (first | (with_reducible first | exact HB.out | apply below_alloc | apply pw_below_drewN | apply below_drew1) | exact HB.out)⟩⟩
    case rest =>
     clear HC14
     try clear c1
     try clear c2
     try clear p2
     try clear c3
     try clear c3b0
     try clear c7
     try clear c9
     try clear c12
     try clear c18
     try clear c25
     try clear c26
     try clear c27
     try clear c27b0
     try clear c28
     obtain ⟨kq, x42_13, rfl, HA, HJ13, HO_4, HO_6, HB⟩ := hcut
     cases kq with
     | zero => exact absurd HA.out (by simp [laws_FnExactDictRun.j0])
     | succ kj13 =>
      have H := HA.out
      clear HA
      simp only [laws_FnExactDictRun.j0] at H
      by_cases c29 : x42_13 = true
      ·subst c29
       have H1 : (none) = some r := by rw [if_pos rfl] at H; exact H
       clear H
       have H := H1
       clear H1
       exact absurd H (by simp)
      ·replace c29 := Bool.eq_false_iff.mpr c29
       subst c29
       have H1 : ((laws_markInt64S.f kj13 t260 1).bind fun bt271 => ((laws_heldInt64S.f kj13 bt271.2 1).bind fun t273 => (if t273 < 0 then (none) else (if t273 = bt271.1 then ((laws_toDictOpS.f kj13 l0).bind fun t274 => ((impl_DictRun.f t274).bind fun t277 => ((laws_eqInt64S.f kj13 t277 t254).bind fun t280 => (if t280 = true then ((laws_heldInt64S.f kj13 bt271.2 1).bind fun t281 => (if t281 < 0 then (none) else (if t281 = bt271.1 then (some true) else (none)))) else (none))))) else (none))))) = some r := by rw [if_neg (show ¬ (false = true) by decide)] at H; exact H
       clear H
       have H := H1
       clear H1
       replace H := Option.bind_eq_some_iff.mp H
       obtain ⟨⟨t271, t272⟩, A300, H⟩ := H
       replace H : ((laws_heldInt64S.f kj13 t272 1).bind fun t273 => (if t273 < 0 then (none) else (if t273 = t271 then ((laws_toDictOpS.f kj13 l0).bind fun t274 => ((impl_DictRun.f t274).bind fun t277 => ((laws_eqInt64S.f kj13 t277 t254).bind fun t280 => (if t280 = true then ((laws_heldInt64S.f kj13 t272 1).bind fun t281 => (if t281 < 0 then (none) else (if t281 = t271 then (some true) else (none)))) else (none))))) else (none)))) = some r := H
       have A30 := Aside0.mk A300
       clear A300
       replace H := Option.bind_eq_some_iff.mp H
       obtain ⟨t273, A310, H⟩ := H
       replace H : (if t273 < 0 then (none) else (if t273 = t271 then ((laws_toDictOpS.f kj13 l0).bind fun t274 => ((impl_DictRun.f t274).bind fun t277 => ((laws_eqInt64S.f kj13 t277 t254).bind fun t280 => (if t280 = true then ((laws_heldInt64S.f kj13 t272 1).bind fun t281 => (if t281 < 0 then (none) else (if t281 = t271 then (some true) else (none)))) else (none))))) else (none))) = some r := H
       have A31 := Aside0.mk A310
       clear A310
       by_cases c32 : t273 < 0
       ·rw [if_pos c32] at H
        exact absurd H (by simp)
       ·rw [if_neg c32] at H
        have c32b0 : decide (t273 < 0) = false := decide_eq_false c32
        clear c32
        by_cases c33 : t273 = t271
        ·rw [if_pos c33] at H
         have c33b0 : (t273 == t271) = true := beq_iff_eq.mpr c33
         have c33b1 : (t273 != t271) = false := bne_eq_false_iff_eq.mpr c33
         clear c33
         replace H := Option.bind_eq_some_iff.mp H
         obtain ⟨t274, A340, H⟩ := H
         replace H : ((impl_DictRun.f t274).bind fun t277 => ((laws_eqInt64S.f kj13 t277 t254).bind fun t280 => (if t280 = true then ((laws_heldInt64S.f kj13 t272 1).bind fun t281 => (if t281 < 0 then (none) else (if t281 = t271 then (some true) else (none)))) else (none)))) = some r := H
         have A34 := Aside0.mk A340
         clear A340
         replace H := Option.bind_eq_some_iff.mp H
         obtain ⟨t277, A350, H⟩ := H
         replace H : ((laws_eqInt64S.f kj13 t277 t254).bind fun t280 => (if t280 = true then ((laws_heldInt64S.f kj13 t272 1).bind fun t281 => (if t281 < 0 then (none) else (if t281 = t271 then (some true) else (none)))) else (none))) = some r := H
         have A35 := Aside0.mk A350
         clear A350
         replace H := Option.bind_eq_some_iff.mp H
         obtain ⟨t280, A360, H⟩ := H
         replace H : (if t280 = true then ((laws_heldInt64S.f kj13 t272 1).bind fun t281 => (if t281 < 0 then (none) else (if t281 = t271 then (some true) else (none)))) else (none)) = some r := H
         have A36 := Aside0.mk A360
         clear A360
         by_cases c37 : t280 = true
         ·subst c37
          have H1 : ((laws_heldInt64S.f kj13 t272 1).bind fun t281 => (if t281 < 0 then (none) else (if t281 = t271 then (some true) else (none)))) = some r := by rw [if_pos rfl] at H; exact H
          clear H
          have H := H1
          clear H1
          replace H := Option.bind_eq_some_iff.mp H
          obtain ⟨t281, A380, H⟩ := H
          replace H : (if t281 < 0 then (none) else (if t281 = t271 then (some true) else (none))) = some r := H
          have A38 := Aside0.mk A380
          clear A380
          by_cases c39 : t281 < 0
          ·rw [if_pos c39] at H
           exact absurd H (by simp)
          ·rw [if_neg c39] at H
           have c39b0 : decide (t281 < 0) = false := decide_eq_false c39
           clear c39
           by_cases c40 : t281 = t271
           ·rw [if_pos c40] at H
            have c40b0 : (t281 == t271) = true := beq_iff_eq.mpr c40
            have c40b1 : (t281 != t271) = false := bne_eq_false_iff_eq.mpr c40
            clear c40
            obtain rfl := Option.some.inj H
            go_wp2_with (first | ((with_reducible refine gate_callee (f := 31) rfl ?_); refine goesL_ (some 45) rfl rfl Try.func31 (by kernel_rfl) rfl #[.slice Ao21 t260.length co21, .int .i64 1] rfl qdr5_4 ?_; (with_reducible refine (laws_markInt64S.calls kj13 (fun k_ => some k_ = (.slice Ao21 t260.length co21 : Value).ownBlock) (.slice Ao21 t260.length co21) t260 1 t271 t272 w _ ?side1 ?side2 A30.out).mono ?_); (case side1 => exact (qdr5_2 HB)); (case side2 => exact Kd.R_tight rfl HO_6.out); rintro e w41 ⟨rfl, hy0, hb, hkp⟩; refine ⟨_, rfl, ?_⟩; have n0_ := Aside0.mk (Kd.R_mono (ok' := fun k_ => some k_ ≠ (.slice Ao21 t260.length co21 : Value).ownBlock) (Kd.R_keptB (HO_4.out) hkp (fun k_ hk_ hs_ => (hk_) hs_)) (fun k_ hk_ => hk_.1)); have n1_ := Aside0.mk (Kd.R_reok rfl hy0 (fun k_ e_ => HO_6.out.1 k_ e_)); have n2_ := Aside0.mk (hb); clear HO_4; clear HO_6; clear HB; have HO_4 := n0_; have HO_6 := n1_; have HB := n2_; clear n0_ n1_ n2_; (try clear hb); (try clear hkp); (try clear hy0)) | ((with_reducible refine gate_callee (f := 32) rfl ?_); refine goesL_ (some 48) rfl rfl Try.func32 (by kernel_rfl) rfl #[.slice Ao21 t272.length co21, .int .i64 1] rfl (by (try simp only [List.map_toArray, List.map_cons, List.map_nil]); first | done | (rw [show t272.length = t260.length from (Kd.R_reads' HO_6.out).1.symm] <;> rfl) | rfl | (simp only [List.length_drop, List.length_take]; rfl)) ?_; (with_reducible refine (laws_heldInt64S.calls kj13 _ _ t272 1 t273 _ ?side1 ?side2 A31.out).mono ?_); (case side1 => exact (qdr5_3 HO_6)); (case side2 => exact (by rw [show t272.length = t260.length from (Kd.R_reads' HO_6.out).1.symm]; exact (Kd.R_reads' HO_6.out).2.1)); rintro e w' ⟨rfl, ⟨nd, rfl⟩⟩; refine ⟨_, rfl, ?_⟩) | ((with_reducible refine gate_callee (f := 27) rfl ?_); refine goesL_ (some 55) rfl rfl Try.func27 (by kernel_rfl) rfl #[.slice A0 l0.length c0] rfl qdr5_4 ?_; (with_reducible refine (laws_toDictOpS.calls kj13 _ _ l0 t274 _ ?side1 ?side2 A34.out).mono ?_); (case side1 => exact (by repeat (first | exact (Kd.C_below HR0.out (qdr5_2 HB)) | (with_reducible refine Kd.C_alloc ?_ _) | (with_reducible refine Kd.C_drewN ?_ _) | (with_reducible refine Kd.C_drew ?_)))); (case side2 => exact HC0.out); rintro e w42 ⟨v275, rfl, ho0, hb⟩; refine ⟨_, rfl, ?_⟩; have n0_ := Aside0.mk (Kd.R_below (qdr5_1 HO_4) hb); have n1_ := Aside0.mk (Kd.R_below (qdr5_1 HO_6) hb); have n2_ := Aside0.mk (Kd.R_lower ho0 (below_size (qdr5_2 HB))); have n3_ := Aside0.mk (below_step (qdr5_2 HB) hb); clear HO_4; clear HO_6; clear HB; have HO_4 := n0_; have HO_6 := n1_; have HO276 := n2_; have HB := n3_; clear n0_ n1_ n2_ n3_; (try clear hb); (try clear hb2); (try clear hk); (try clear hi); (try clear ho0); obtain ⟨Ao43, co43, eo43⟩ := Kd.R_slice HO276.out; subst eo43) | ((with_reducible refine gate_callee (f := 18) rfl ?_); refine goesL_ (some 56) rfl rfl Try.func18 (by kernel_rfl) rfl #[.slice Ao43 t274.length co43] rfl qdr5_4 ?_; (with_reducible refine (impl_DictRun.calls _ _ t274 t277 _ ?side1 ?side2 A35.out).mono ?_); (case side1 => exact (qdr5_3 HO276)); (case side2 => exact (Kd.R_reads' HO276.out).2.1); rintro e w44 ⟨v278, rfl, ho0, hb⟩; refine ⟨_, rfl, ?_⟩; have n0_ := Aside0.mk (Kd.R_elder' (qdr5_1 HO_4) (Kd.R_base ho0) hb); have n1_ := Aside0.mk (Kd.R_elder' (qdr5_1 HO_6) (Kd.R_base ho0) hb); have n2_ := Aside0.mk (Kd.R_below (qdr5_1 HO276) hb); have n3_ := Aside0.mk (Kd.R_lower (Kd.R_new' (Kd.R_new' ho0 (Kd.R_lt (qdr5_1 HO_4))) (Kd.R_lt (qdr5_1 HO_6))) (below_size (qdr5_2 HB))); have n4_ := Aside0.mk (below_step (qdr5_2 HB) hb); clear HO_4; clear HO_6; clear HO276; clear HB; have HO_4 := n0_; have HO_6 := n1_; have HO276 := n2_; have HO279 := n3_; have HB := n4_; clear n0_ n1_ n2_ n3_ n4_; (try clear hb); (try clear hb2); (try clear hk); (try clear hi); (try clear ho0); obtain ⟨Ao45, co45, eo45⟩ := Kd.R_slice HO279.out; subst eo45) | ((with_reducible refine gate_callee (f := 28) rfl ?_); refine goesL_ (some 59) rfl rfl Try.func28 (by kernel_rfl) rfl #[.slice Ao45 t277.length co45, .slice Ao22 t254.length co22] rfl qdr5_4 ?_; (with_reducible refine (laws_eqInt64S.calls kj13 _ _ t277 _ _ t254 true _ ?side1 ?side2 ?side3 ?side4 A36.out).mono ?_); (case side1 => exact (qdr5_3 HO279)); (case side2 => exact (Kd.R_reads' HO279.out).2.1); (case side3 => exact (qdr5_3 HO_4)); (case side4 => exact (Kd.R_reads' HO_4.out).2.1); rintro e w' ⟨rfl, ⟨nd, rfl⟩⟩; refine ⟨_, rfl, ?_⟩) | ((with_reducible refine gate_callee (f := 32) rfl ?_); refine goesL_ (some 63) rfl rfl Try.func32 (by kernel_rfl) rfl #[.slice Ao21 t272.length co21, .int .i64 1] rfl (by (try simp only [List.map_toArray, List.map_cons, List.map_nil]); first | done | (rw [show t272.length = t260.length from (Kd.R_reads' HO_6.out).1.symm] <;> rfl) | rfl | (simp only [List.length_drop, List.length_take]; rfl)) ?_; (with_reducible refine (laws_heldInt64S.calls kj13 _ _ t272 1 t281 _ ?side1 ?side2 A38.out).mono ?_); (case side1 => exact (qdr5_3 HO_6)); (case side2 => exact (by rw [show t272.length = t260.length from (Kd.R_reads' HO_6.out).1.symm]; exact (Kd.R_reads' HO_6.out).2.1)); rintro e w' ⟨rfl, ⟨nd, rfl⟩⟩; refine ⟨_, rfl, ?_⟩))
            go_ret
            exact ⟨by first | rfl | (simp [errW_none, errW_some] <;> rfl) | (simp [*, errW_none, errW_some] <;> rfl), by repeat (first | (with_reducible first | exact HB.out | apply below_alloc | apply pw_below_drewN | apply below_drew1) | exact HB.out)⟩
           ·rw [if_neg c40] at H
            exact absurd H (by simp)
         ·replace c37 := Bool.eq_false_iff.mpr c37
          subst c37
          have H1 : (none) = some r := by rw [if_neg (show ¬ (false = true) by decide)] at H; exact H
          clear H
          have H := H1
          clear H1
          exact absurd H (by simp)
        ·rw [if_neg c33] at H
         exact absurd H (by simp)
   ·replace c12 := Bool.eq_false_iff.mpr c12
    subst c12
    have H1 : (none) = some r := by rw [if_neg (show ¬ (false = true) by decide)] at H; exact H
    clear H
    have H := H1
    clear H1
    exact absurd H (by simp)
  ·replace c9 := Bool.eq_false_iff.mpr c9
   subst c9
   have H1 : (none) = some r := by rw [if_neg (show ¬ (false = true) by decide)] at H; exact H
   clear H
   have H := H1
   clear H1
   exact absurd H (by simp)

end Go.Proofs.Ytohilfkdfcihgaa.PDi
