/- Go functions as Lean functions, and that each Go function comes to just that; printed by a program of this session (gprint.py over the kit's print.py). No condition. -/
import Derived.Test.YtfgiodolgmfdoaaDoorPQx0
import Derived.Test.YtfgiodolgmfdoaaDoorPQy2
import Derived.Test.YtfgiodolgmfdoaaDoorPQx3
import Derived.Test.YtfgiodolgmfdoaaDoorGFind
import Derived.Test.YtfgiodolgmfdoaaDoorGPc
import Derived.Test.YtfgiodolgmfdoaaDoorPTx1
namespace Go.Proofs.YtfgiodolgmfdoaaDoor.PT
open Go.RowKit Go.Proofs.YtfgiodolgmfdoaaDoorW.PrintWords Go.Proofs.YtfgiodolgmfdoaaDoorW.PrintLast Go.Proofs.YtfgiodolgmfdoaaDoorW.PrintMore
attribute [local go_sem] max2_int min2_int max_two min_two max_three min_three max_four min_four   -- for this text's walks alone
set_option linter.unusedVariables false
set_option linter.unusedSimpArgs false

/-! ### spec_DrawTextFind: function 83 -/
def spec_DrawTextFind.j0 : Nat → ByteArray → ByteArray → List Int → Int → Option (ByteArray × ByteArray × Int)
 | 0, _, _, _, _ => none
 | k + 1, x6, x7, x297000, x297001 => (spec_l1Rd_once.f x297000 x297001 8).bind fun bt305 => (if bt305.1 = true then ((spec_l1Rd_below.f x297000 bt305.2 12).bind fun bt307 => (some (x6, (⟨#[]⟩ : ByteArray), wrap64 (bt307.1 - 2)))) else ((spec_l1Rd_below.f x297000 bt305.2 12).bind fun bt309 => (some (x6, x7, wrap64 (bt309.1 - 2)))))
def spec_DrawTextFind.f (k : Nat) (l0 : List Int) : Option (ByteArray × ByteArray × Int) := (spec_l1Open.f l0).bind fun bt294 => ((spec_l3DrawText.f k bt294.1 bt294.2).bind fun bt297 => ((spec_l3DrawPiece.f bt294.1 bt297.2).bind fun bt299 => ((spec_l1Rd_once.f bt294.1 bt299.2 4).bind fun bt301 => (if bt301.1 = true then ((spec_l3DrawText.f k bt294.1 bt301.2).bind fun bt303 => (spec_DrawTextFind.j0 k bt297.1 bt303.1 bt294.1 bt303.2)) else (spec_DrawTextFind.j0 k bt297.1 bt299.1 bt294.1 bt301.2)))))
theorem spec_DrawTextFind.mono_l : ∀ k, (∀ y0 y1 y2 y3, LeO (spec_DrawTextFind.j0 k y0 y1 y2 y3) (spec_DrawTextFind.j0 (k + 1) y0 y1 y2 y3))
 | 0 => fun _ _ _ _ r h => by simp [spec_DrawTextFind.j0] at h
 | k + 1 => by
  have ih0 := spec_DrawTextFind.mono_l k
  ·intro y0 y1 y2 y3
   unfold spec_DrawTextFind.j0
   repeat' first
   | (with_reducible exact ih0 _ _ _ _)
   | (with_reducible exact spec_l3DrawText.mono _ _ _)
   | (with_reducible exact LeO.refl _)
   | (with_reducible exact LeO.none _)
   | (with_reducible refine LeO.ite ?_ ?_)
   | (with_reducible refine LeO.bind ?_ (fun _ => ?_))
   | exact ih0 _ _ _ _
   | exact spec_l3DrawText.mono _ _ _
   | exact LeO.none _
   | refine LeO.ite ?_ ?_
   | refine LeO.bind ?_ (fun _ => ?_)
theorem spec_DrawTextFind.mono : ∀ a0 k, LeO (spec_DrawTextFind.f k a0) (spec_DrawTextFind.f (k + 1) a0) := by
 intro a0 k
 have ih0 := spec_DrawTextFind.mono_l k
 unfold spec_DrawTextFind.f
 repeat' first
   | (with_reducible exact ih0 _ _ _ _)
   | (with_reducible exact spec_l3DrawText.mono _ _ _)
   | (with_reducible exact LeO.refl _)
   | (with_reducible exact LeO.none _)
   | (with_reducible refine LeO.ite ?_ ?_)
   | (with_reducible refine LeO.bind ?_ (fun _ => ?_))
   | exact ih0 _ _ _ _
   | exact spec_l3DrawText.mono _ _ _
   | exact LeO.none _
   | refine LeO.ite ?_ ?_
   | refine LeO.bind ?_ (fun _ => ?_)
set_option maxHeartbeats 8000000 in
set_option maxRecDepth 100000 in
theorem spec_DrawTextFind.calls (k : Nat) (A0 : Option Addr) (c0 : Nat) (l0 : List Int) (r1 : ByteArray) (r2 : ByteArray) (r3 : Int) (w : World) (hr0 : Kd.C (Kd.int .u8) w A0 l0.length l0) (hc0 : l0.length ≤ c0) (h : spec_DrawTextFind.f k l0 = some (r1, r2, r3)) :
  Calls Tryd.prog 83 #[.slice A0 l0.length c0] w fun e w' => e = .returned (.tuple #[.string r1, .string r2, .int .i64 r3]) ∧ Below w.heap.size w w' := by
 have HR0 := Aside0.mk hr0
 have HC0 := Aside0.mk hc0
 clear hr0 hc0
 have HB := Aside0.mk (Below.refl w.heap.size w)
 have H : ((spec_l1Open.f l0).bind fun bt294 => ((spec_l3DrawText.f k bt294.1 bt294.2).bind fun bt297 => ((spec_l3DrawPiece.f bt294.1 bt297.2).bind fun bt299 => ((spec_l1Rd_once.f bt294.1 bt299.2 4).bind fun bt301 => (if bt301.1 = true then ((spec_l3DrawText.f k bt294.1 bt301.2).bind fun bt303 => (spec_DrawTextFind.j0 k bt297.1 bt303.1 bt294.1 bt303.2)) else (spec_DrawTextFind.j0 k bt297.1 bt299.1 bt294.1 bt301.2)))))) = some (r1, r2, r3) := h
 clear h
 replace H := Option.bind_eq_some_iff.mp H
 obtain ⟨⟨t294, t295⟩, A20, H⟩ := H
 replace H : ((spec_l3DrawText.f k t294 t295).bind fun bt297 => ((spec_l3DrawPiece.f t294 bt297.2).bind fun bt299 => ((spec_l1Rd_once.f t294 bt299.2 4).bind fun bt301 => (if bt301.1 = true then ((spec_l3DrawText.f k t294 bt301.2).bind fun bt303 => (spec_DrawTextFind.j0 k bt297.1 bt303.1 t294 bt303.2)) else (spec_DrawTextFind.j0 k bt297.1 bt299.1 t294 bt301.2))))) = some (r1, r2, r3) := H
 have A2 := Aside0.mk A20
 clear A20
 replace H := Option.bind_eq_some_iff.mp H
 obtain ⟨⟨t297, t298⟩, A30, H⟩ := H
 replace H : ((spec_l3DrawPiece.f t294 t298).bind fun bt299 => ((spec_l1Rd_once.f t294 bt299.2 4).bind fun bt301 => (if bt301.1 = true then ((spec_l3DrawText.f k t294 bt301.2).bind fun bt303 => (spec_DrawTextFind.j0 k t297 bt303.1 t294 bt303.2)) else (spec_DrawTextFind.j0 k t297 bt299.1 t294 bt301.2)))) = some (r1, r2, r3) := H
 have A3 := Aside0.mk A30
 clear A30
 replace H := Option.bind_eq_some_iff.mp H
 obtain ⟨⟨t299, t300⟩, A40, H⟩ := H
 replace H : ((spec_l1Rd_once.f t294 t300 4).bind fun bt301 => (if bt301.1 = true then ((spec_l3DrawText.f k t294 bt301.2).bind fun bt303 => (spec_DrawTextFind.j0 k t297 bt303.1 t294 bt303.2)) else (spec_DrawTextFind.j0 k t297 t299 t294 bt301.2))) = some (r1, r2, r3) := H
 have A4 := Aside0.mk A40
 clear A40
 replace H := Option.bind_eq_some_iff.mp H
 obtain ⟨⟨t301, t302⟩, A50, H⟩ := H
 replace H : (if t301 = true then ((spec_l3DrawText.f k t294 t302).bind fun bt303 => (spec_DrawTextFind.j0 k t297 bt303.1 t294 bt303.2)) else (spec_DrawTextFind.j0 k t297 t299 t294 t302)) = some (r1, r2, r3) := H
 have A5 := Aside0.mk A50
 clear A50
 have HC6 := Aside0.mk H
 clear H
 go_enter Tryd.func83, Tryd.ntmps83
 go_upto_if 15 with (first | ((with_reducible refine gate_callee (f := 71) rfl ?_); refine goesL_ (some 9) rfl rfl Tryd.func71 (by kernel_rfl) rfl #[.slice A0 l0.length c0] rfl (by (try simp only [List.map_toArray, List.map_cons, List.map_nil]); first | done | rfl | (simp only [List.length_drop, List.length_take]; rfl)) ?_; (with_reducible refine (spec_l1Open.calls _ _ l0 t294 t295 w _ ?side1 ?side2 ?side3 A2.out).mono ?_); (case side1 => repeat (first | (with_reducible first | exact HB.out | apply below_alloc | apply pw_below_drewN | apply below_drew1) | exact HB.out)); (case side2 => exact HR0.out); (case side3 => exact HC0.out); rintro e w7 ⟨g296, rfl, hi, hb, hb2⟩; refine ⟨_, rfl, ?_⟩; have n0_ := Aside0.mk (hb); have n1_ := Aside0.mk (hi); clear HB; have HB := n0_; have HI296 := n1_; clear n0_ n1_; (try clear hb); (try clear hb2); (try clear hk); (try clear hi)) | ((with_reducible refine gate_callee (f := 70) rfl ?_); refine goesL_ (some 11) rfl rfl Tryd.func70 (by kernel_rfl) rfl #[.pointer (some ⟨g296, 0, none⟩)] rfl (by (try simp only [List.map_toArray, List.map_cons, List.map_nil]); first | done | rfl | (simp only [List.length_drop, List.length_take]; rfl)) ?_; (with_reducible refine (spec_l3DrawText.calls k g296 t294 t295 t297 t298 w _ ?side1 ?side2 A3.out).mono ?_); (case side1 => repeat (first | (with_reducible first | exact HI296.out | apply IsS132.alloc | apply IsS132.drewN | apply IsS132.drew | apply IsS132.set_1) | exact HI296.out)); (case side2 => repeat (first | (with_reducible first | exact HB.out | apply below_alloc | apply pw_below_drewN | apply below_drew1 | refine below_set ?_ (IsS132.ge HI296.out)) | exact HB.out)); rintro e w8 ⟨rfl, hi, hb, hk⟩; refine ⟨_, rfl, ?_⟩; have n0_ := Aside0.mk (hb); have n1_ := Aside0.mk (hi); clear HB; clear HI296; have HB := n0_; have HI296 := n1_; clear n0_ n1_; (try clear hb); (try clear hb2); (try clear hk); (try clear hi)) | ((with_reducible refine gate_callee (f := 105) rfl ?_); refine goesL_ (some 13) rfl rfl Tryd.func105 (by kernel_rfl) rfl #[.pointer (some ⟨g296, 0, none⟩)] rfl (by (try simp only [List.map_toArray, List.map_cons, List.map_nil]); first | done | rfl | (simp only [List.length_drop, List.length_take]; rfl)) ?_; (with_reducible refine (spec_l3DrawPiece.calls g296 t294 t298 t299 t300 w _ ?side1 ?side2 A4.out).mono ?_); (case side1 => repeat (first | (with_reducible first | exact HI296.out | apply IsS132.alloc | apply IsS132.drewN | apply IsS132.drew | apply IsS132.set_1) | exact HI296.out)); (case side2 => repeat (first | (with_reducible first | exact HB.out | apply below_alloc | apply pw_below_drewN | apply below_drew1 | refine below_set ?_ (IsS132.ge HI296.out)) | exact HB.out)); rintro e w9 ⟨rfl, hi, hb, hk⟩; refine ⟨_, rfl, ?_⟩; have n0_ := Aside0.mk (hb); have n1_ := Aside0.mk (hi); clear HB; clear HI296; have HB := n0_; have HI296 := n1_; clear n0_ n1_; (try clear hb); (try clear hb2); (try clear hk); (try clear hi)) | ((with_reducible refine gate_callee (f := 73) rfl ?_); refine goesL_ (some 15) rfl rfl Tryd.func73 (by kernel_rfl) rfl #[.pointer (some ⟨g296, 0, none⟩), .int .i64 4] rfl (by (try simp only [List.map_toArray, List.map_cons, List.map_nil]); first | done | rfl | (simp only [List.length_drop, List.length_take]; rfl)) ?_; (with_reducible refine (spec_l1Rd_once.calls g296 t294 t300 4 t301 t302 w _ ?side1 ?side2 A5.out).mono ?_); (case side1 => repeat (first | (with_reducible first | exact HI296.out | apply IsS132.alloc | apply IsS132.drewN | apply IsS132.drew | apply IsS132.set_1) | exact HI296.out)); (case side2 => repeat (first | (with_reducible first | exact HB.out | apply below_alloc | apply pw_below_drewN | apply below_drew1 | refine below_set ?_ (IsS132.ge HI296.out)) | exact HB.out)); rintro e w10 ⟨rfl, hi, hb, hk⟩; refine ⟨_, rfl, ?_⟩; have n0_ := Aside0.mk (hb); have n1_ := Aside0.mk (hi); clear HB; clear HI296; have HB := n0_; have HI296 := n1_; clear n0_ n1_; (try clear hb); (try clear hb2); (try clear hk); (try clear hi)))
 (try simp only [Act.put, List.setIfInBounds_toArray, List.set_cons_zero, List.set_cons_succ])
 go_cut [7] (fun v7 wc => ∃ (kq : Nat) (x7_5 : ByteArray) (x297001_5 : Int), v7 = .string x7_5 ∧ Aside0 (spec_DrawTextFind.j0 kq t297 x7_5 t294 x297001_5 = some (r1, r2, r3)) ∧ Aside0 (kq ≤ k) ∧ Aside0 (IsS132 w wc g296 t294 x297001_5) ∧ Aside0 (Below w.heap.size w wc))
 case first =>
  have H := HC6.out
  clear HC6
  by_cases c11 : t301 = true
  ·subst c11
   have H1 : ((spec_l3DrawText.f k t294 t302).bind fun bt303 => (spec_DrawTextFind.j0 k t297 bt303.1 t294 bt303.2)) = some (r1, r2, r3) := by rw [if_pos rfl] at H; exact H
   clear H
   have H := H1
   clear H1
   replace H := Option.bind_eq_some_iff.mp H
   obtain ⟨⟨t303, t304⟩, A120, H⟩ := H
   replace H : (spec_DrawTextFind.j0 k t297 t303 t294 t304) = some (r1, r2, r3) := H
   have A12 := Aside0.mk A120
   clear A120
   have H' := Aside0.mk H
   clear H
   go_wp2_with (first | ((with_reducible refine gate_callee (f := 70) rfl ?_); refine goesL_ (some 17) rfl rfl Tryd.func70 (by kernel_rfl) rfl #[.pointer (some ⟨g296, 0, none⟩)] rfl (by (try simp only [List.map_toArray, List.map_cons, List.map_nil]); first | done | rfl | (simp only [List.length_drop, List.length_take]; rfl)) ?_; (with_reducible refine (spec_l3DrawText.calls k g296 t294 t302 t303 t304 w _ ?side1 ?side2 A12.out).mono ?_); (case side1 => repeat (first | (with_reducible first | exact HI296.out | apply IsS132.alloc | apply IsS132.drewN | apply IsS132.drew | apply IsS132.set_1) | exact HI296.out)); (case side2 => repeat (first | (with_reducible first | exact HB.out | apply below_alloc | apply pw_below_drewN | apply below_drew1 | refine below_set ?_ (IsS132.ge HI296.out)) | exact HB.out)); rintro e w13 ⟨rfl, hi, hb, hk⟩; refine ⟨_, rfl, ?_⟩; have n0_ := Aside0.mk (hb); have n1_ := Aside0.mk (hi); clear HB; clear HI296; have HB := n0_; have HI296 := n1_; clear n0_ n1_; (try clear hb); (try clear hb2); (try clear hk); (try clear hi)))
   go_meet
   case rel => exact ⟨_, (t303), (t304), (by first | rfl | (simp; done) | (simp [*]; done)), H', ⟨by first | omega | exact Nat.le_refl _⟩, ⟨by repeat (first | (with_reducible first | exact HI296.out | apply IsS132.alloc | apply IsS132.drewN | apply IsS132.drew | apply IsS132.set_1) | exact HI296.out)⟩, ⟨by repeat (first | (with_reducible first | exact HB.out | apply below_alloc | apply pw_below_drewN | apply below_drew1 | refine below_set ?_ (IsS132.ge HI296.out)) | exact HB.out)⟩⟩
  ·replace c11 := Bool.eq_false_iff.mpr c11
   subst c11
   have H1 : (spec_DrawTextFind.j0 k t297 t299 t294 t302) = some (r1, r2, r3) := by rw [if_neg (show ¬ (false = true) by decide)] at H; exact H
   clear H
   have H := H1
   clear H1
   have H' := Aside0.mk H
   clear H
   go_wp2
   go_meet
   case rel => exact ⟨_, (t299), (t302), (by first | rfl | (simp; done) | (simp [*]; done)), H', ⟨by first | omega | exact Nat.le_refl _⟩, ⟨by repeat (first | (with_reducible first | exact HI296.out | apply IsS132.alloc | apply IsS132.drewN | apply IsS132.drew | apply IsS132.set_1) | exact HI296.out)⟩, ⟨by repeat (first | (with_reducible first | exact HB.out | apply below_alloc | apply pw_below_drewN | apply below_drew1 | refine below_set ?_ (IsS132.ge HI296.out)) | exact HB.out)⟩⟩
 case rest =>
  clear HC6
  try clear c1
  try clear p2
  try clear c7
  try clear c8
  try clear c10
  try clear c11
  obtain ⟨kq, x7_5, x297001_5, rfl, HA, HJ5, HI296, HB⟩ := hcut
  cases kq with
  | zero => exact absurd HA.out (by simp [spec_DrawTextFind.j0])
  | succ kj5 =>
   have H := HA.out
   clear HA
   simp only [spec_DrawTextFind.j0] at H
   replace H := Option.bind_eq_some_iff.mp H
   obtain ⟨⟨t305, t306⟩, A140, H⟩ := H
   replace H : (if t305 = true then ((spec_l1Rd_below.f t294 t306 12).bind fun bt307 => (some (t297, (⟨#[]⟩ : ByteArray), wrap64 (bt307.1 - 2)))) else ((spec_l1Rd_below.f t294 t306 12).bind fun bt309 => (some (t297, x7_5, wrap64 (bt309.1 - 2))))) = some (r1, r2, r3) := H
   have A14 := Aside0.mk A140
   clear A140
   by_cases c15 : t305 = true
   ·subst c15
    have H1 : ((spec_l1Rd_below.f t294 t306 12).bind fun bt307 => (some (t297, (⟨#[]⟩ : ByteArray), wrap64 (bt307.1 - 2)))) = some (r1, r2, r3) := by rw [if_pos rfl] at H; exact H
    clear H
    have H := H1
    clear H1
    replace H := Option.bind_eq_some_iff.mp H
    obtain ⟨⟨t307, t308⟩, A160, H⟩ := H
    replace H : (some (t297, (⟨#[]⟩ : ByteArray), wrap64 (t307 - 2))) = some (r1, r2, r3) := H
    have A16 := Aside0.mk A160
    clear A160
    simp only [Option.some.injEq, Prod.mk.injEq] at H
    obtain ⟨rfl, rfl, rfl⟩ := H
    go_wp2_with (first | ((with_reducible refine gate_callee (f := 73) rfl ?_); refine goesL_ (some 19) rfl rfl Tryd.func73 (by kernel_rfl) rfl #[.pointer (some ⟨g296, 0, none⟩), .int .i64 8] rfl (by (try simp only [List.map_toArray, List.map_cons, List.map_nil]); first | done | rfl | (simp only [List.length_drop, List.length_take]; rfl)) ?_; (with_reducible refine (spec_l1Rd_once.calls g296 t294 x297001_5 8 true t306 w _ ?side1 ?side2 A14.out).mono ?_); (case side1 => repeat (first | (with_reducible first | exact HI296.out | apply IsS132.alloc | apply IsS132.drewN | apply IsS132.drew | apply IsS132.set_1) | exact HI296.out)); (case side2 => repeat (first | (with_reducible first | exact HB.out | apply below_alloc | apply pw_below_drewN | apply below_drew1 | refine below_set ?_ (IsS132.ge HI296.out)) | exact HB.out)); rintro e w17 ⟨rfl, hi, hb, hk⟩; refine ⟨_, rfl, ?_⟩; have n0_ := Aside0.mk (hb); have n1_ := Aside0.mk (hi); clear HB; clear HI296; have HB := n0_; have HI296 := n1_; clear n0_ n1_; (try clear hb); (try clear hb2); (try clear hk); (try clear hi)) | ((with_reducible refine gate_callee (f := 72) rfl ?_); refine goesL_ (some 23) rfl rfl Tryd.func72 (by kernel_rfl) rfl #[.pointer (some ⟨g296, 0, none⟩), .int .i64 12] rfl (by (try simp only [List.map_toArray, List.map_cons, List.map_nil]); first | done | rfl | (simp only [List.length_drop, List.length_take]; rfl)) ?_; (with_reducible refine (spec_l1Rd_below.calls g296 t294 t306 12 t307 t308 w _ ?side1 ?side2 A16.out).mono ?_); (case side1 => repeat (first | (with_reducible first | exact HI296.out | apply IsS132.alloc | apply IsS132.drewN | apply IsS132.drew | apply IsS132.set_1) | exact HI296.out)); (case side2 => repeat (first | (with_reducible first | exact HB.out | apply below_alloc | apply pw_below_drewN | apply below_drew1 | refine below_set ?_ (IsS132.ge HI296.out)) | exact HB.out)); rintro e w18 ⟨rfl, hi, hb, hk⟩; refine ⟨_, rfl, ?_⟩; have n0_ := Aside0.mk (hb); have n1_ := Aside0.mk (hi); clear HB; clear HI296; have HB := n0_; have HI296 := n1_; clear n0_ n1_; (try clear hb); (try clear hb2); (try clear hk); (try clear hi)))
    go_ret3
    exact ⟨by first | rfl | (simp [errW_none, errW_some] <;> rfl) | (simp [*, errW_none, errW_some] <;> rfl), by repeat (first | (with_reducible first | exact HB.out | apply below_alloc | apply pw_below_drewN | apply below_drew1 | refine below_set ?_ (IsS132.ge HI296.out)) | exact HB.out)⟩
   ·replace c15 := Bool.eq_false_iff.mpr c15
    subst c15
    have H1 : ((spec_l1Rd_below.f t294 t306 12).bind fun bt309 => (some (t297, x7_5, wrap64 (bt309.1 - 2)))) = some (r1, r2, r3) := by rw [if_neg (show ¬ (false = true) by decide)] at H; exact H
    clear H
    have H := H1
    clear H1
    replace H := Option.bind_eq_some_iff.mp H
    obtain ⟨⟨t309, t310⟩, A190, H⟩ := H
    replace H : (some (t297, x7_5, wrap64 (t309 - 2))) = some (r1, r2, r3) := H
    have A19 := Aside0.mk A190
    clear A190
    simp only [Option.some.injEq, Prod.mk.injEq] at H
    obtain ⟨rfl, rfl, rfl⟩ := H
    go_wp2_with (first | ((with_reducible refine gate_callee (f := 73) rfl ?_); refine goesL_ (some 19) rfl rfl Tryd.func73 (by kernel_rfl) rfl #[.pointer (some ⟨g296, 0, none⟩), .int .i64 8] rfl (by (try simp only [List.map_toArray, List.map_cons, List.map_nil]); first | done | rfl | (simp only [List.length_drop, List.length_take]; rfl)) ?_; (with_reducible refine (spec_l1Rd_once.calls g296 t294 x297001_5 8 false t306 w _ ?side1 ?side2 A14.out).mono ?_); (case side1 => repeat (first | (with_reducible first | exact HI296.out | apply IsS132.alloc | apply IsS132.drewN | apply IsS132.drew | apply IsS132.set_1) | exact HI296.out)); (case side2 => repeat (first | (with_reducible first | exact HB.out | apply below_alloc | apply pw_below_drewN | apply below_drew1 | refine below_set ?_ (IsS132.ge HI296.out)) | exact HB.out)); rintro e w20 ⟨rfl, hi, hb, hk⟩; refine ⟨_, rfl, ?_⟩; have n0_ := Aside0.mk (hb); have n1_ := Aside0.mk (hi); clear HB; clear HI296; have HB := n0_; have HI296 := n1_; clear n0_ n1_; (try clear hb); (try clear hb2); (try clear hk); (try clear hi)) | ((with_reducible refine gate_callee (f := 72) rfl ?_); refine goesL_ (some 23) rfl rfl Tryd.func72 (by kernel_rfl) rfl #[.pointer (some ⟨g296, 0, none⟩), .int .i64 12] rfl (by (try simp only [List.map_toArray, List.map_cons, List.map_nil]); first | done | rfl | (simp only [List.length_drop, List.length_take]; rfl)) ?_; (with_reducible refine (spec_l1Rd_below.calls g296 t294 t306 12 t309 t310 w _ ?side1 ?side2 A19.out).mono ?_); (case side1 => repeat (first | (with_reducible first | exact HI296.out | apply IsS132.alloc | apply IsS132.drewN | apply IsS132.drew | apply IsS132.set_1) | exact HI296.out)); (case side2 => repeat (first | (with_reducible first | exact HB.out | apply below_alloc | apply pw_below_drewN | apply below_drew1 | refine below_set ?_ (IsS132.ge HI296.out)) | exact HB.out)); rintro e w21 ⟨rfl, hi, hb, hk⟩; refine ⟨_, rfl, ?_⟩; have n0_ := Aside0.mk (hb); have n1_ := Aside0.mk (hi); clear HB; clear HI296; have HB := n0_; have HI296 := n1_; clear n0_ n1_; (try clear hb); (try clear hb2); (try clear hk); (try clear hi)))
    go_ret3
    exact ⟨by first | rfl | (simp [errW_none, errW_some] <;> rfl) | (simp [*, errW_none, errW_some] <;> rfl), by repeat (first | (with_reducible first | exact HB.out | apply below_alloc | apply pw_below_drewN | apply below_drew1 | refine below_set ?_ (IsS132.ge HI296.out)) | exact HB.out)⟩

/-! ### spec_DrawTextSplit: function 43 -/
def spec_DrawTextSplit.f (k : Nat) (l0 : List Int) : Option (ByteArray × ByteArray) := (spec_DrawTextFind.f k l0).bind fun bt311 => (some (bt311.1, bt311.2.1))
theorem spec_DrawTextSplit.mono : ∀ a0 k, LeO (spec_DrawTextSplit.f k a0) (spec_DrawTextSplit.f (k + 1) a0) := by
 intro a0 k
 unfold spec_DrawTextSplit.f
 repeat' first
   | (with_reducible exact spec_DrawTextFind.mono _ _)
   | (with_reducible exact LeO.refl _)
   | (with_reducible exact LeO.none _)
   | (with_reducible refine LeO.ite ?_ ?_)
   | (with_reducible refine LeO.bind ?_ (fun _ => ?_))
   | exact spec_DrawTextFind.mono _ _
   | exact LeO.none _
   | refine LeO.ite ?_ ?_
   | refine LeO.bind ?_ (fun _ => ?_)
set_option maxHeartbeats 8000000 in
set_option maxRecDepth 100000 in
theorem spec_DrawTextSplit.calls (k : Nat) (A0 : Option Addr) (c0 : Nat) (l0 : List Int) (r1 : ByteArray) (r2 : ByteArray) (w : World) (hr0 : Kd.C (Kd.int .u8) w A0 l0.length l0) (hc0 : l0.length ≤ c0) (h : spec_DrawTextSplit.f k l0 = some (r1, r2)) :
  Calls Tryd.prog 43 #[.slice A0 l0.length c0] w fun e w' => e = .returned (.tuple #[.string r1, .string r2]) ∧ Below w.heap.size w w' := by
 have HR0 := Aside0.mk hr0
 have HC0 := Aside0.mk hc0
 clear hr0 hc0
 have HB := Aside0.mk (Below.refl w.heap.size w)
 have H : ((spec_DrawTextFind.f k l0).bind fun bt311 => (some (bt311.1, bt311.2.1))) = some (r1, r2) := h
 clear h
 replace H := Option.bind_eq_some_iff.mp H
 obtain ⟨⟨t311, t312, t313⟩, A20, H⟩ := H
 replace H : (some (t311, t312)) = some (r1, r2) := H
 have A2 := Aside0.mk A20
 clear A20
 simp only [Option.some.injEq, Prod.mk.injEq] at H
 obtain ⟨rfl, rfl⟩ := H
 go_enter Tryd.func43, Tryd.ntmps43
 go_wp2_with (first | ((with_reducible refine gate_callee (f := 83) rfl ?_); refine goesL_ (some 9) rfl rfl Tryd.func83 (by kernel_rfl) rfl #[.slice A0 l0.length c0] rfl (by (try simp only [List.map_toArray, List.map_cons, List.map_nil]); first | done | rfl | (simp only [List.length_drop, List.length_take]; rfl)) ?_; (with_reducible refine (spec_DrawTextFind.calls k _ _ l0 t311 t312 t313 _ ?side1 ?side2 A2.out).mono ?_); (case side1 => repeat (first | exact HR0.out | (with_reducible refine Kd.C_alloc ?_ _) | (with_reducible refine Kd.C_drewN ?_ _) | (with_reducible refine Kd.C_drew ?_))); (case side2 => exact HC0.out); rintro e w3 ⟨rfl, hb⟩; refine ⟨_, rfl, ?_⟩; have n0_ := Aside0.mk (below_step (by repeat (first | (with_reducible first | exact HB.out | apply below_alloc | apply pw_below_drewN | apply below_drew1) | exact HB.out)) hb); clear HB; have HB := n0_; clear n0_; (try clear hb); (try clear hb2); (try clear hk); (try clear hi)))
 go_ret2
 exact ⟨by first | rfl | (simp [errW_none, errW_some] <;> rfl) | (simp [*, errW_none, errW_some] <;> rfl), by repeat (first | (with_reducible first | exact HB.out | apply below_alloc | apply pw_below_drewN | apply below_drew1) | exact HB.out)⟩

/-! ### spec_DrawTextRepr: function 44 -/
def spec_DrawTextRepr.f (k : Nat) (l0 : List Int) : Option (ByteArray) := (spec_l1Open.f l0).bind fun bt314 => ((spec_l3DrawText.f k bt314.1 bt314.2).bind fun bt317 => (some bt317.1))
theorem spec_DrawTextRepr.mono : ∀ a0 k, LeO (spec_DrawTextRepr.f k a0) (spec_DrawTextRepr.f (k + 1) a0) := by
 intro a0 k
 unfold spec_DrawTextRepr.f
 repeat' first
   | (with_reducible exact spec_l3DrawText.mono _ _ _)
   | (with_reducible exact LeO.refl _)
   | (with_reducible exact LeO.none _)
   | (with_reducible refine LeO.ite ?_ ?_)
   | (with_reducible refine LeO.bind ?_ (fun _ => ?_))
   | exact spec_l3DrawText.mono _ _ _
   | exact LeO.none _
   | refine LeO.ite ?_ ?_
   | refine LeO.bind ?_ (fun _ => ?_)
set_option maxHeartbeats 8000000 in
set_option maxRecDepth 100000 in
theorem spec_DrawTextRepr.calls (k : Nat) (A0 : Option Addr) (c0 : Nat) (l0 : List Int) (r : ByteArray) (w : World) (hr0 : Kd.C (Kd.int .u8) w A0 l0.length l0) (hc0 : l0.length ≤ c0) (h : spec_DrawTextRepr.f k l0 = some r) :
  Calls Tryd.prog 44 #[.slice A0 l0.length c0] w fun e w' => e = .returned (.string r) ∧ Below w.heap.size w w' := by
 have HR0 := Aside0.mk hr0
 have HC0 := Aside0.mk hc0
 clear hr0 hc0
 have HB := Aside0.mk (Below.refl w.heap.size w)
 have H : ((spec_l1Open.f l0).bind fun bt314 => ((spec_l3DrawText.f k bt314.1 bt314.2).bind fun bt317 => (some bt317.1))) = some r := h
 clear h
 replace H := Option.bind_eq_some_iff.mp H
 obtain ⟨⟨t314, t315⟩, A20, H⟩ := H
 replace H : ((spec_l3DrawText.f k t314 t315).bind fun bt317 => (some bt317.1)) = some r := H
 have A2 := Aside0.mk A20
 clear A20
 replace H := Option.bind_eq_some_iff.mp H
 obtain ⟨⟨t317, t318⟩, A30, H⟩ := H
 replace H : (some t317) = some r := H
 have A3 := Aside0.mk A30
 clear A30
 obtain rfl := Option.some.inj H
 go_enter Tryd.func44, Tryd.ntmps44
 go_wp2_with (first | ((with_reducible refine gate_callee (f := 71) rfl ?_); refine goesL_ (some 4) rfl rfl Tryd.func71 (by kernel_rfl) rfl #[.slice A0 l0.length c0] rfl (by (try simp only [List.map_toArray, List.map_cons, List.map_nil]); first | done | rfl | (simp only [List.length_drop, List.length_take]; rfl)) ?_; (with_reducible refine (spec_l1Open.calls _ _ l0 t314 t315 w _ ?side1 ?side2 ?side3 A2.out).mono ?_); (case side1 => repeat (first | (with_reducible first | exact HB.out | apply below_alloc | apply pw_below_drewN | apply below_drew1) | exact HB.out)); (case side2 => exact HR0.out); (case side3 => exact HC0.out); rintro e w4 ⟨g316, rfl, hi, hb, hb2⟩; refine ⟨_, rfl, ?_⟩; have n0_ := Aside0.mk (hb); have n1_ := Aside0.mk (hi); clear HB; have HB := n0_; have HI316 := n1_; clear n0_ n1_; (try clear hb); (try clear hb2); (try clear hk); (try clear hi)) | ((with_reducible refine gate_callee (f := 70) rfl ?_); refine goesL_ (some 5) rfl rfl Tryd.func70 (by kernel_rfl) rfl #[.pointer (some ⟨g316, 0, none⟩)] rfl (by (try simp only [List.map_toArray, List.map_cons, List.map_nil]); first | done | rfl | (simp only [List.length_drop, List.length_take]; rfl)) ?_; (with_reducible refine (spec_l3DrawText.calls k g316 t314 t315 t317 t318 w _ ?side1 ?side2 A3.out).mono ?_); (case side1 => repeat (first | (with_reducible first | exact HI316.out | apply IsS132.alloc | apply IsS132.drewN | apply IsS132.drew | apply IsS132.set_1) | exact HI316.out)); (case side2 => repeat (first | (with_reducible first | exact HB.out | apply below_alloc | apply pw_below_drewN | apply below_drew1 | refine below_set ?_ (IsS132.ge HI316.out)) | exact HB.out)); rintro e w5 ⟨rfl, hi, hb, hk⟩; refine ⟨_, rfl, ?_⟩; have n0_ := Aside0.mk (hb); have n1_ := Aside0.mk (hi); clear HB; clear HI316; have HB := n0_; have HI316 := n1_; clear n0_ n1_; (try clear hb); (try clear hb2); (try clear hk); (try clear hi)))
 go_ret
 exact ⟨by first | rfl | (simp [errW_none, errW_some] <;> rfl) | (simp [*, errW_none, errW_some] <;> rfl), by repeat (first | (with_reducible first | exact HB.out | apply below_alloc | apply pw_below_drewN | apply below_drew1 | refine below_set ?_ (IsS132.ge HI316.out)) | exact HB.out)⟩

/-! ### laws_FnPieces: function 12 -/
mutual
def laws_FnPieces.j0 : Nat → List Int → List Int → Bool → Option (Bool)
 | 0, _, _, _ => none
 | k + 1, x0, x1, x22 => if x22 = true then (some true) else ((spec_DrawTextSplit.f k x0).bind fun bt321 => ((spec_DrawTextRepr.f k x1).bind fun t323 => ((impl_TextSplitS.f bt321.1 bt321.2).bind fun bt324 => ((spec_TextOk.f k bt321.1).bind fun t328 => (if t328 = true then ((spec_TextOk.f k bt321.2).bind fun t329 => (if t329 = true then (laws_FnPieces.j1 k bt321.1 bt321.2 t323 bt324.1 bt324.2 (bt321.2.toList == ([] : List UInt8))) else (laws_FnPieces.j1 k bt321.1 bt321.2 t323 bt324.1 bt324.2 true))) else (laws_FnPieces.j1 k bt321.1 bt321.2 t323 bt324.1 bt324.2 true))))))
def laws_FnPieces.j1 : Nat → ByteArray → ByteArray → ByteArray → List ByteArray → Int → Bool → Option (Bool)
 | 0, _, _, _, _, _, _ => none
 | k + 1, x5, x6, x7, x8, x9, x47 => if x47 = true then (some (x9 == 1)) else ((impl_TextJoin.f x6 x8).bind fun bt330 => (if x9 = 0 then (if bt330.2 = 0 then (laws_FnPieces.j2 k x5 x6 x7 x8 (bt330.1.toList != x5.toList)) else (laws_FnPieces.j2 k x5 x6 x7 x8 true)) else (laws_FnPieces.j2 k x5 x6 x7 x8 true)))
def laws_FnPieces.j2 : Nat → ByteArray → ByteArray → ByteArray → List ByteArray → Bool → Option (Bool)
 | 0, _, _, _, _, _ => none
 | k + 1, x5, x6, x7, x8, x66 => if x66 = true then (none) else (laws_FnPieces.l0 k x5 x6 x7 x8 0)
def laws_FnPieces.l0 : Nat → ByteArray → ByteArray → ByteArray → List ByteArray → Int → Option (Bool)
 | 0, _, _, _, _, _ => none
 | k + 1, x5, x6, x7, x8, x12 => if x12 < (x8.length : Int) then (if 0 ≤ x12 then ((impl_TextFind.f (rdOf ByteArray.empty x8 x12) x6 0).bind fun t333 => (if t333 ≥ 0 then (none) else (laws_FnPieces.l0 k x5 x6 x7 x8 (wrap64 (x12 + 1))))) else (none)) else ((impl_TextReplace.f x5 x6 x7).bind fun bt334 => ((impl_TextJoin.f x7 x8).bind fun bt336 => (if bt334.2 = bt336.2 then (if bt334.1.toList = bt336.1.toList then (some true) else ((spec_TextOk.f k x7).bind fun t338 => (if t338 = true then (none) else (some (bt334.2 == 1))))) else ((spec_TextOk.f k x7).bind fun t339 => (if t339 = true then (none) else (some (bt334.2 == 1)))))))
end
def laws_FnPieces.f (k : Nat) (l0 : List Int) (l1 : List Int) : Option (Bool) := (laws_big.f l0).bind fun t319 => (if t319 = true then (laws_FnPieces.j0 k l0 l1 true) else ((laws_big.f l1).bind fun t320 => (laws_FnPieces.j0 k l0 l1 t320)))
theorem laws_FnPieces.mono_l : ∀ k, (∀ y0 y1 y2, LeO (laws_FnPieces.j0 k y0 y1 y2) (laws_FnPieces.j0 (k + 1) y0 y1 y2)) ∧ (∀ y0 y1 y2 y3 y4 y5, LeO (laws_FnPieces.j1 k y0 y1 y2 y3 y4 y5) (laws_FnPieces.j1 (k + 1) y0 y1 y2 y3 y4 y5)) ∧ (∀ y0 y1 y2 y3 y4, LeO (laws_FnPieces.j2 k y0 y1 y2 y3 y4) (laws_FnPieces.j2 (k + 1) y0 y1 y2 y3 y4)) ∧ (∀ y0 y1 y2 y3 y4, LeO (laws_FnPieces.l0 k y0 y1 y2 y3 y4) (laws_FnPieces.l0 (k + 1) y0 y1 y2 y3 y4))
 | 0 => ⟨fun _ _ _ r h => by simp [laws_FnPieces.j0] at h, fun _ _ _ _ _ _ r h => by simp [laws_FnPieces.j1] at h, fun _ _ _ _ _ r h => by simp [laws_FnPieces.j2] at h, fun _ _ _ _ _ r h => by simp [laws_FnPieces.l0] at h⟩
 | k + 1 => by
  obtain ⟨ih0, ih1, ih2, ih3⟩ := laws_FnPieces.mono_l k
  refine ⟨?_, ?_, ?_, ?_⟩
  ·intro y0 y1 y2
   unfold laws_FnPieces.j0
   repeat' first
   | (with_reducible exact ih0 _ _ _)
   | (with_reducible exact ih1 _ _ _ _ _ _)
   | (with_reducible exact ih2 _ _ _ _ _)
   | (with_reducible exact ih3 _ _ _ _ _)
   | (with_reducible exact spec_DrawTextRepr.mono _ _)
   | (with_reducible exact spec_DrawTextSplit.mono _ _)
   | (with_reducible exact spec_TextOk.mono _ _)
   | (with_reducible exact LeO.refl _)
   | (with_reducible exact LeO.none _)
   | (with_reducible refine LeO.ite ?_ ?_)
   | (with_reducible refine LeO.bind ?_ (fun _ => ?_))
   | exact ih0 _ _ _
   | exact ih1 _ _ _ _ _ _
   | exact ih2 _ _ _ _ _
   | exact ih3 _ _ _ _ _
   | exact spec_DrawTextRepr.mono _ _
   | exact spec_DrawTextSplit.mono _ _
   | exact spec_TextOk.mono _ _
   | exact LeO.none _
   | refine LeO.ite ?_ ?_
   | refine LeO.bind ?_ (fun _ => ?_)
  ·intro y0 y1 y2 y3 y4 y5
   unfold laws_FnPieces.j1
   repeat' first
   | (with_reducible exact ih0 _ _ _)
   | (with_reducible exact ih1 _ _ _ _ _ _)
   | (with_reducible exact ih2 _ _ _ _ _)
   | (with_reducible exact ih3 _ _ _ _ _)
   | (with_reducible exact spec_DrawTextRepr.mono _ _)
   | (with_reducible exact spec_DrawTextSplit.mono _ _)
   | (with_reducible exact spec_TextOk.mono _ _)
   | (with_reducible exact LeO.refl _)
   | (with_reducible exact LeO.none _)
   | (with_reducible refine LeO.ite ?_ ?_)
   | (with_reducible refine LeO.bind ?_ (fun _ => ?_))
   | exact ih0 _ _ _
   | exact ih1 _ _ _ _ _ _
   | exact ih2 _ _ _ _ _
   | exact ih3 _ _ _ _ _
   | exact spec_DrawTextRepr.mono _ _
   | exact spec_DrawTextSplit.mono _ _
   | exact spec_TextOk.mono _ _
   | exact LeO.none _
   | refine LeO.ite ?_ ?_
   | refine LeO.bind ?_ (fun _ => ?_)
  ·intro y0 y1 y2 y3 y4
   unfold laws_FnPieces.j2
   repeat' first
   | (with_reducible exact ih0 _ _ _)
   | (with_reducible exact ih1 _ _ _ _ _ _)
   | (with_reducible exact ih2 _ _ _ _ _)
   | (with_reducible exact ih3 _ _ _ _ _)
   | (with_reducible exact spec_DrawTextRepr.mono _ _)
   | (with_reducible exact spec_DrawTextSplit.mono _ _)
   | (with_reducible exact spec_TextOk.mono _ _)
   | (with_reducible exact LeO.refl _)
   | (with_reducible exact LeO.none _)
   | (with_reducible refine LeO.ite ?_ ?_)
   | (with_reducible refine LeO.bind ?_ (fun _ => ?_))
   | exact ih0 _ _ _
   | exact ih1 _ _ _ _ _ _
   | exact ih2 _ _ _ _ _
   | exact ih3 _ _ _ _ _
   | exact spec_DrawTextRepr.mono _ _
   | exact spec_DrawTextSplit.mono _ _
   | exact spec_TextOk.mono _ _
   | exact LeO.none _
   | refine LeO.ite ?_ ?_
   | refine LeO.bind ?_ (fun _ => ?_)
  ·intro y0 y1 y2 y3 y4
   unfold laws_FnPieces.l0
   repeat' first
   | (with_reducible exact ih0 _ _ _)
   | (with_reducible exact ih1 _ _ _ _ _ _)
   | (with_reducible exact ih2 _ _ _ _ _)
   | (with_reducible exact ih3 _ _ _ _ _)
   | (with_reducible exact spec_DrawTextRepr.mono _ _)
   | (with_reducible exact spec_DrawTextSplit.mono _ _)
   | (with_reducible exact spec_TextOk.mono _ _)
   | (with_reducible exact LeO.refl _)
   | (with_reducible exact LeO.none _)
   | (with_reducible refine LeO.ite ?_ ?_)
   | (with_reducible refine LeO.bind ?_ (fun _ => ?_))
   | exact ih0 _ _ _
   | exact ih1 _ _ _ _ _ _
   | exact ih2 _ _ _ _ _
   | exact ih3 _ _ _ _ _
   | exact spec_DrawTextRepr.mono _ _
   | exact spec_DrawTextSplit.mono _ _
   | exact spec_TextOk.mono _ _
   | exact LeO.none _
   | refine LeO.ite ?_ ?_
   | refine LeO.bind ?_ (fun _ => ?_)
theorem laws_FnPieces.mono : ∀ a0 a1 k, LeO (laws_FnPieces.f k a0 a1) (laws_FnPieces.f (k + 1) a0 a1) := by
 intro a0 a1 k
 obtain ⟨ih0, ih1, ih2, ih3⟩ := laws_FnPieces.mono_l k
 unfold laws_FnPieces.f
 repeat' first
   | (with_reducible exact ih0 _ _ _)
   | (with_reducible exact ih1 _ _ _ _ _ _)
   | (with_reducible exact ih2 _ _ _ _ _)
   | (with_reducible exact ih3 _ _ _ _ _)
   | (with_reducible exact spec_DrawTextRepr.mono _ _)
   | (with_reducible exact spec_DrawTextSplit.mono _ _)
   | (with_reducible exact spec_TextOk.mono _ _)
   | (with_reducible exact LeO.refl _)
   | (with_reducible exact LeO.none _)
   | (with_reducible refine LeO.ite ?_ ?_)
   | (with_reducible refine LeO.bind ?_ (fun _ => ?_))
   | exact ih0 _ _ _
   | exact ih1 _ _ _ _ _ _
   | exact ih2 _ _ _ _ _
   | exact ih3 _ _ _ _ _
   | exact spec_DrawTextRepr.mono _ _
   | exact spec_DrawTextSplit.mono _ _
   | exact spec_TextOk.mono _ _
   | exact LeO.none _
   | refine LeO.ite ?_ ?_
   | refine LeO.bind ?_ (fun _ => ?_)
set_option maxHeartbeats 8000000 in
set_option maxRecDepth 100000 in
theorem laws_FnPieces.calls (k : Nat) (A0 : Option Addr) (c0 : Nat) (l0 : List Int) (A1 : Option Addr) (c1 : Nat) (l1 : List Int) (r : Bool) (w : World) (hr0 : Kd.C (Kd.int .u8) w A0 l0.length l0) (hc0 : l0.length ≤ c0) (hr1 : Kd.C (Kd.int .u8) w A1 l1.length l1) (hc1 : l1.length ≤ c1) (h : laws_FnPieces.f k l0 l1 = some r) (hT : TM w) :
  Calls Tryd.prog 12 #[.slice A0 l0.length c0, .slice A1 l1.length c1] w fun e w' => e = .returned (.bool r) ∧ Below w.heap.size w w' := by
 have HR0 := Aside0.mk hr0
 have HC0 := Aside0.mk hc0
 clear hr0 hc0
 have HR1 := Aside0.mk hr1
 have HC1 := Aside0.mk hc1
 clear hr1 hc1
 have HB := Aside0.mk (Below.refl w.heap.size w)
 have HT := Aside0.mk hT
 clear hT
 have H : ((laws_big.f l0).bind fun t319 => (if t319 = true then (laws_FnPieces.j0 k l0 l1 true) else ((laws_big.f l1).bind fun t320 => (laws_FnPieces.j0 k l0 l1 t320)))) = some r := h
 clear h
 have HC3 := Aside0.mk H
 clear H
 go_enter Tryd.func12, Tryd.ntmps12
 go_upto_region 1 with (fail)
 go_cut [22] (fun v22 wc => ∃ (kq : Nat) (x22_2 : Bool), v22 = .bool x22_2 ∧ Aside0 (laws_FnPieces.j0 kq l0 l1 x22_2 = some r) ∧ Aside0 (kq ≤ k) ∧ Aside0 (Below w.heap.size w wc))
 case first =>
  have H := HC3.out
  clear HC3
  replace H := Option.bind_eq_some_iff.mp H
  obtain ⟨t319, A40, H⟩ := H
  replace H : (if t319 = true then (laws_FnPieces.j0 k l0 l1 true) else ((laws_big.f l1).bind fun t320 => (laws_FnPieces.j0 k l0 l1 t320))) = some r := H
  have A4 := Aside0.mk A40
  clear A40
  by_cases c5 : t319 = true
  ·subst c5
   have H1 : (laws_FnPieces.j0 k l0 l1 true) = some r := by rw [if_pos rfl] at H; exact H
   clear H
   have H := H1
   clear H1
   have H' := Aside0.mk H
   clear H
   go_wp2_with (first | ((with_reducible refine gate_callee (f := 31) rfl ?_); refine goesL_ (some 18) rfl rfl Tryd.func31 (by kernel_rfl) rfl #[.slice A0 l0.length c0] rfl (by (try simp only [List.map_toArray, List.map_cons, List.map_nil]); first | done | rfl | (simp only [List.length_drop, List.length_take]; rfl)) ?_; (with_reducible refine (laws_big.calls _ _ l0 true _ ?side1 ?side2 A4.out).mono ?_); (case side1 => repeat (first | exact (Kd.C_below HR0.out HB.out) | (with_reducible refine Kd.C_alloc ?_ _) | (with_reducible refine Kd.C_drewN ?_ _) | (with_reducible refine Kd.C_drew ?_))); (case side2 => exact HC0.out); rintro e w' ⟨rfl, ⟨nd, rfl⟩⟩; refine ⟨_, rfl, ?_⟩))
   go_meet
   case rel => exact ⟨_, (true), (by first | rfl | (simp; done) | (simp [*]; done)), H', ⟨by first | omega | exact Nat.le_refl _⟩, ⟨by repeat (first | (with_reducible first | exact HB.out | apply below_alloc | apply pw_below_drewN | apply below_drew1) | exact HB.out)⟩⟩
  ·replace c5 := Bool.eq_false_iff.mpr c5
   subst c5
   have H1 : ((laws_big.f l1).bind fun t320 => (laws_FnPieces.j0 k l0 l1 t320)) = some r := by rw [if_neg (show ¬ (false = true) by decide)] at H; exact H
   clear H
   have H := H1
   clear H1
   replace H := Option.bind_eq_some_iff.mp H
   obtain ⟨t320, A60, H⟩ := H
   replace H : (laws_FnPieces.j0 k l0 l1 t320) = some r := H
   have A6 := Aside0.mk A60
   clear A60
   have H' := Aside0.mk H
   clear H
   go_wp2_with (first | ((with_reducible refine gate_callee (f := 31) rfl ?_); refine goesL_ (some 18) rfl rfl Tryd.func31 (by kernel_rfl) rfl #[.slice A0 l0.length c0] rfl (by (try simp only [List.map_toArray, List.map_cons, List.map_nil]); first | done | rfl | (simp only [List.length_drop, List.length_take]; rfl)) ?_; (with_reducible refine (laws_big.calls _ _ l0 false _ ?side1 ?side2 A4.out).mono ?_); (case side1 => repeat (first | exact (Kd.C_below HR0.out HB.out) | (with_reducible refine Kd.C_alloc ?_ _) | (with_reducible refine Kd.C_drewN ?_ _) | (with_reducible refine Kd.C_drew ?_))); (case side2 => exact HC0.out); rintro e w' ⟨rfl, ⟨nd, rfl⟩⟩; refine ⟨_, rfl, ?_⟩) | (go_at_call 31; (with_reducible refine (laws_big.calls _ _ l1 t320 _ ?side1 ?side2 A6.out).mono ?_); (case side1 => repeat (first | exact (Kd.C_below HR1.out (by repeat (first | (with_reducible first | exact HB.out | apply below_alloc | apply pw_below_drewN | apply below_drew1) | exact HB.out))) | (with_reducible refine Kd.C_alloc ?_ _) | (with_reducible refine Kd.C_drewN ?_ _) | (with_reducible refine Kd.C_drew ?_))); (case side2 => exact HC1.out); rintro e w' ⟨rfl, ⟨nd, rfl⟩⟩))
   go_meet
   case rel => exact ⟨_, (t320), (by first | rfl | (simp; done) | (simp [*]; done)), H', ⟨by first | omega | exact Nat.le_refl _⟩, ⟨by repeat (first | (with_reducible first | exact HB.out | apply below_alloc | apply pw_below_drewN | apply below_drew1) | exact HB.out)⟩⟩
 case rest =>
  clear HC3
  try clear c1
  try clear p2
  try clear c3
  try clear c5
  obtain ⟨kq, x22_2, rfl, HA, HJ2, HB⟩ := hcut
  cases kq with
  | zero => exact absurd HA.out (by simp [laws_FnPieces.j0])
  | succ kj2 =>
   have H := HA.out
   clear HA
   simp only [laws_FnPieces.j0] at H
   by_cases c7 : x22_2 = true
   ·subst c7
    have H1 : (some true) = some r := by rw [if_pos rfl] at H; exact H
    clear H
    have H := H1
    clear H1
    obtain rfl := Option.some.inj H
    go_wp2
    go_ret
    exact ⟨by first | rfl | (simp [errW_none, errW_some] <;> rfl) | (simp [*, errW_none, errW_some] <;> rfl), by repeat (first | (with_reducible first | exact HB.out | apply below_alloc | apply pw_below_drewN | apply below_drew1) | exact HB.out)⟩
   ·replace c7 := Bool.eq_false_iff.mpr c7
    subst c7
    have H1 : ((spec_DrawTextSplit.f kj2 l0).bind fun bt321 => ((spec_DrawTextRepr.f kj2 l1).bind fun t323 => ((impl_TextSplitS.f bt321.1 bt321.2).bind fun bt324 => ((spec_TextOk.f kj2 bt321.1).bind fun t328 => (if t328 = true then ((spec_TextOk.f kj2 bt321.2).bind fun t329 => (if t329 = true then (laws_FnPieces.j1 kj2 bt321.1 bt321.2 t323 bt324.1 bt324.2 (bt321.2.toList == ([] : List UInt8))) else (laws_FnPieces.j1 kj2 bt321.1 bt321.2 t323 bt324.1 bt324.2 true))) else (laws_FnPieces.j1 kj2 bt321.1 bt321.2 t323 bt324.1 bt324.2 true)))))) = some r := by rw [if_neg (show ¬ (false = true) by decide)] at H; exact H
    clear H
    have H := H1
    clear H1
    replace H := Option.bind_eq_some_iff.mp H
    obtain ⟨⟨t321, t322⟩, A80, H⟩ := H
    replace H : ((spec_DrawTextRepr.f kj2 l1).bind fun t323 => ((impl_TextSplitS.f t321 t322).bind fun bt324 => ((spec_TextOk.f kj2 t321).bind fun t328 => (if t328 = true then ((spec_TextOk.f kj2 t322).bind fun t329 => (if t329 = true then (laws_FnPieces.j1 kj2 t321 t322 t323 bt324.1 bt324.2 (t322.toList == ([] : List UInt8))) else (laws_FnPieces.j1 kj2 t321 t322 t323 bt324.1 bt324.2 true))) else (laws_FnPieces.j1 kj2 t321 t322 t323 bt324.1 bt324.2 true))))) = some r := H
    have A8 := Aside0.mk A80
    clear A80
    replace H := Option.bind_eq_some_iff.mp H
    obtain ⟨t323, A90, H⟩ := H
    replace H : ((impl_TextSplitS.f t321 t322).bind fun bt324 => ((spec_TextOk.f kj2 t321).bind fun t328 => (if t328 = true then ((spec_TextOk.f kj2 t322).bind fun t329 => (if t329 = true then (laws_FnPieces.j1 kj2 t321 t322 t323 bt324.1 bt324.2 (t322.toList == ([] : List UInt8))) else (laws_FnPieces.j1 kj2 t321 t322 t323 bt324.1 bt324.2 true))) else (laws_FnPieces.j1 kj2 t321 t322 t323 bt324.1 bt324.2 true)))) = some r := H
    have A9 := Aside0.mk A90
    clear A90
    replace H := Option.bind_eq_some_iff.mp H
    obtain ⟨⟨t324, t325⟩, A100, H⟩ := H
    replace H : ((spec_TextOk.f kj2 t321).bind fun t328 => (if t328 = true then ((spec_TextOk.f kj2 t322).bind fun t329 => (if t329 = true then (laws_FnPieces.j1 kj2 t321 t322 t323 t324 t325 (t322.toList == ([] : List UInt8))) else (laws_FnPieces.j1 kj2 t321 t322 t323 t324 t325 true))) else (laws_FnPieces.j1 kj2 t321 t322 t323 t324 t325 true))) = some r := H
    have A10 := Aside0.mk A100
    clear A100
    have HC11 := Aside0.mk H
    clear H
    go_upto_region 6 with (first | ((with_reducible refine gate_callee (f := 43) rfl ?_); refine goesL_ (some 25) rfl rfl Tryd.func43 (by kernel_rfl) rfl #[.slice A0 l0.length c0] rfl (by (try simp only [List.map_toArray, List.map_cons, List.map_nil]); first | done | rfl | (simp only [List.length_drop, List.length_take]; rfl)) ?_; (with_reducible refine (spec_DrawTextSplit.calls kj2 _ _ l0 t321 t322 _ ?side1 ?side2 A8.out).mono ?_); (case side1 => repeat (first | exact (Kd.C_below HR0.out HB.out) | (with_reducible refine Kd.C_alloc ?_ _) | (with_reducible refine Kd.C_drewN ?_ _) | (with_reducible refine Kd.C_drew ?_))); (case side2 => exact HC0.out); rintro e w12 ⟨rfl, hb⟩; refine ⟨_, rfl, ?_⟩; have n0_ := Aside0.mk (below_step (by repeat (first | (with_reducible first | exact HB.out | apply below_alloc | apply pw_below_drewN | apply below_drew1) | exact HB.out)) hb); clear HB; have HB := n0_; clear n0_; (try clear hb); (try clear hb2); (try clear hk); (try clear hi)) | ((with_reducible refine gate_callee (f := 44) rfl ?_); refine goesL_ (some 29) rfl rfl Tryd.func44 (by kernel_rfl) rfl #[.slice A1 l1.length c1] rfl (by (try simp only [List.map_toArray, List.map_cons, List.map_nil]); first | done | rfl | (simp only [List.length_drop, List.length_take]; rfl)) ?_; (with_reducible refine (spec_DrawTextRepr.calls kj2 _ _ l1 t323 _ ?side1 ?side2 A9.out).mono ?_); (case side1 => repeat (first | exact (Kd.C_below HR1.out HB.out) | (with_reducible refine Kd.C_alloc ?_ _) | (with_reducible refine Kd.C_drewN ?_ _) | (with_reducible refine Kd.C_drew ?_))); (case side2 => exact HC1.out); rintro e w13 ⟨rfl, hb⟩; refine ⟨_, rfl, ?_⟩; have n0_ := Aside0.mk (below_step (by repeat (first | (with_reducible first | exact HB.out | apply below_alloc | apply pw_below_drewN | apply below_drew1) | exact HB.out)) hb); clear HB; have HB := n0_; clear n0_; (try clear hb); (try clear hb2); (try clear hk); (try clear hi)) | ((with_reducible refine gate_callee (f := 38) rfl ?_); refine goesL_ (some 33) rfl rfl Tryd.func38 (by kernel_rfl) rfl #[.string t321, .string t322] rfl (by (try simp only [List.map_toArray, List.map_cons, List.map_nil]); first | done | rfl | (simp only [List.length_drop, List.length_take]; rfl)) ?_; (with_reducible refine (impl_TextSplitS.calls t321 t322 t324 t325 _ A10.out (TM.below HT.out (by repeat (first | (with_reducible first | exact HB.out | apply below_alloc | apply pw_below_drewN | apply below_drew1) | exact HB.out)))).mono ?_); rintro e w14 ⟨v326, rfl, ho0, hb⟩; refine ⟨_, rfl, ?_⟩; have n0_ := Aside0.mk (Kd.R_lower ho0 (below_size (by repeat (first | (with_reducible first | exact HB.out | apply below_alloc | apply pw_below_drewN | apply below_drew1) | exact HB.out)))); have n1_ := Aside0.mk (below_step (by repeat (first | (with_reducible first | exact HB.out | apply below_alloc | apply pw_below_drewN | apply below_drew1) | exact HB.out)) hb); clear HB; have HO327 := n0_; have HB := n1_; clear n0_ n1_; (try clear hb); (try clear hb2); (try clear hk); (try clear hi); (try clear ho0)))
    (try simp only [Act.put, List.setIfInBounds_toArray, List.set_cons_zero, List.set_cons_succ])
    go_cut [47] (fun v47 wc => ∃ (kq : Nat) (x47_10 : Bool), v47 = .bool x47_10 ∧ Aside0 (laws_FnPieces.j1 kq t321 t322 t323 t324 t325 x47_10 = some r) ∧ Aside0 (kq ≤ kj2) ∧ Aside0 (Kd.R Kd.string 9 wc w.heap.size (fun _ => True) v326 t324) ∧ Aside0 (Below w.heap.size w wc))
    case first =>
     have H := HC11.out
     clear HC11
     replace H := Option.bind_eq_some_iff.mp H
     obtain ⟨t328, A150, H⟩ := H
     replace H : (if t328 = true then ((spec_TextOk.f kj2 t322).bind fun t329 => (if t329 = true then (laws_FnPieces.j1 kj2 t321 t322 t323 t324 t325 (t322.toList == ([] : List UInt8))) else (laws_FnPieces.j1 kj2 t321 t322 t323 t324 t325 true))) else (laws_FnPieces.j1 kj2 t321 t322 t323 t324 t325 true)) = some r := H
     have A15 := Aside0.mk A150
     clear A150
     by_cases c16 : t328 = true
     ·subst c16
      have H1 : ((spec_TextOk.f kj2 t322).bind fun t329 => (if t329 = true then (laws_FnPieces.j1 kj2 t321 t322 t323 t324 t325 (t322.toList == ([] : List UInt8))) else (laws_FnPieces.j1 kj2 t321 t322 t323 t324 t325 true))) = some r := by rw [if_pos rfl] at H; exact H
      clear H
      have H := H1
      clear H1
      replace H := Option.bind_eq_some_iff.mp H
      obtain ⟨t329, A170, H⟩ := H
      replace H : (if t329 = true then (laws_FnPieces.j1 kj2 t321 t322 t323 t324 t325 (t322.toList == ([] : List UInt8))) else (laws_FnPieces.j1 kj2 t321 t322 t323 t324 t325 true)) = some r := H
      have A17 := Aside0.mk A170
      clear A170
      by_cases c18 : t329 = true
      ·subst c18
       have H1 : (laws_FnPieces.j1 kj2 t321 t322 t323 t324 t325 (t322.toList == ([] : List UInt8))) = some r := by rw [if_pos rfl] at H; exact H
       clear H
       have H := H1
       clear H1
       have H' := Aside0.mk H
       clear H
       go_wp2_with (first | ((with_reducible refine gate_callee (f := 34) rfl ?_); refine goesL_ (some 37) rfl rfl Tryd.func34 (by kernel_rfl) rfl #[.string t321] rfl (by (try simp only [List.map_toArray, List.map_cons, List.map_nil]); first | done | rfl | (simp only [List.length_drop, List.length_take]; rfl)) ?_; (with_reducible refine (spec_TextOk.calls kj2 t321 true _ A15.out).mono ?_); rintro e w19 ⟨rfl, hb⟩; refine ⟨_, rfl, ?_⟩; have n0_ := Aside0.mk (Kd.R_below (by (with_reducible repeat (first | apply Kd.R_alloc | apply Kd.R_drewN | apply Kd.R_drew)); exact HO327.out) hb); have n1_ := Aside0.mk (below_step (by repeat (first | (with_reducible first | exact HB.out | apply below_alloc | apply pw_below_drewN | apply below_drew1) | exact HB.out)) hb); clear HO327; clear HB; have HO327 := n0_; have HB := n1_; clear n0_ n1_; (try clear hb); (try clear hb2); (try clear hk); (try clear hi)) | (go_at_call 34; (with_reducible refine (spec_TextOk.calls kj2 t322 true _ A17.out).mono ?_); rintro e w20 ⟨rfl, hb⟩; have n0_ := Aside0.mk (Kd.R_below (by (with_reducible repeat (first | apply Kd.R_alloc | apply Kd.R_drewN | apply Kd.R_drew)); exact HO327.out) hb); have n1_ := Aside0.mk (below_step (by repeat (first | (with_reducible first | exact HB.out | apply below_alloc | apply pw_below_drewN | apply below_drew1) | exact HB.out)) hb); clear HO327; clear HB; have HO327 := n0_; have HB := n1_; clear n0_ n1_; (try clear hb); (try clear hb2); (try clear hk); (try clear hi)))
       go_meet
       case rel => exact ⟨_, ((t322.toList == ([] : List UInt8))), (by first | rfl | (simp; done) | (simp [*]; done)), H', ⟨by have := HJ2.out; first | omega | exact Nat.le_refl _⟩, ⟨by (with_reducible repeat (first | apply Kd.R_alloc | apply Kd.R_drewN | apply Kd.R_drew)); exact HO327.out⟩, ⟨by repeat (first | (with_reducible first | exact HB.out | apply below_alloc | apply pw_below_drewN | apply below_drew1) | exact HB.out)⟩⟩
      ·replace c18 := Bool.eq_false_iff.mpr c18
       subst c18
       have H1 : (laws_FnPieces.j1 kj2 t321 t322 t323 t324 t325 true) = some r := by rw [if_neg (show ¬ (false = true) by decide)] at H; exact H
       clear H
       have H := H1
       clear H1
       have H' := Aside0.mk H
       clear H
       go_wp2_with (first | ((with_reducible refine gate_callee (f := 34) rfl ?_); refine goesL_ (some 37) rfl rfl Tryd.func34 (by kernel_rfl) rfl #[.string t321] rfl (by (try simp only [List.map_toArray, List.map_cons, List.map_nil]); first | done | rfl | (simp only [List.length_drop, List.length_take]; rfl)) ?_; (with_reducible refine (spec_TextOk.calls kj2 t321 true _ A15.out).mono ?_); rintro e w21 ⟨rfl, hb⟩; refine ⟨_, rfl, ?_⟩; have n0_ := Aside0.mk (Kd.R_below (by (with_reducible repeat (first | apply Kd.R_alloc | apply Kd.R_drewN | apply Kd.R_drew)); exact HO327.out) hb); have n1_ := Aside0.mk (below_step (by repeat (first | (with_reducible first | exact HB.out | apply below_alloc | apply pw_below_drewN | apply below_drew1) | exact HB.out)) hb); clear HO327; clear HB; have HO327 := n0_; have HB := n1_; clear n0_ n1_; (try clear hb); (try clear hb2); (try clear hk); (try clear hi)) | (go_at_call 34; (with_reducible refine (spec_TextOk.calls kj2 t322 false _ A17.out).mono ?_); rintro e w22 ⟨rfl, hb⟩; have n0_ := Aside0.mk (Kd.R_below (by (with_reducible repeat (first | apply Kd.R_alloc | apply Kd.R_drewN | apply Kd.R_drew)); exact HO327.out) hb); have n1_ := Aside0.mk (below_step (by repeat (first | (with_reducible first | exact HB.out | apply below_alloc | apply pw_below_drewN | apply below_drew1) | exact HB.out)) hb); clear HO327; clear HB; have HO327 := n0_; have HB := n1_; clear n0_ n1_; (try clear hb); (try clear hb2); (try clear hk); (try clear hi)))
       go_meet
       case rel => exact ⟨_, (true), (by first | rfl | (simp; done) | (simp [*]; done)), H', ⟨by have := HJ2.out; first | omega | exact Nat.le_refl _⟩, ⟨by (with_reducible repeat (first | apply Kd.R_alloc | apply Kd.R_drewN | apply Kd.R_drew)); exact HO327.out⟩, ⟨by repeat (first | (with_reducible first | exact HB.out | apply below_alloc | apply pw_below_drewN | apply below_drew1) | exact HB.out)⟩⟩
     ·replace c16 := Bool.eq_false_iff.mpr c16
      subst c16
      have H1 : (laws_FnPieces.j1 kj2 t321 t322 t323 t324 t325 true) = some r := by rw [if_neg (show ¬ (false = true) by decide)] at H; exact H
      clear H
      have H := H1
      clear H1
      have H' := Aside0.mk H
      clear H
      go_wp2_with (first | ((with_reducible refine gate_callee (f := 34) rfl ?_); refine goesL_ (some 37) rfl rfl Tryd.func34 (by kernel_rfl) rfl #[.string t321] rfl (by (try simp only [List.map_toArray, List.map_cons, List.map_nil]); first | done | rfl | (simp only [List.length_drop, List.length_take]; rfl)) ?_; (with_reducible refine (spec_TextOk.calls kj2 t321 false _ A15.out).mono ?_); rintro e w23 ⟨rfl, hb⟩; refine ⟨_, rfl, ?_⟩; have n0_ := Aside0.mk (Kd.R_below (by (with_reducible repeat (first | apply Kd.R_alloc | apply Kd.R_drewN | apply Kd.R_drew)); exact HO327.out) hb); have n1_ := Aside0.mk (below_step (by repeat (first | (with_reducible first | exact HB.out | apply below_alloc | apply pw_below_drewN | apply below_drew1) | exact HB.out)) hb); clear HO327; clear HB; have HO327 := n0_; have HB := n1_; clear n0_ n1_; (try clear hb); (try clear hb2); (try clear hk); (try clear hi)))
      go_meet
      case rel => exact ⟨_, (true), (by first | rfl | (simp; done) | (simp [*]; done)), H', ⟨by have := HJ2.out; first | omega | exact Nat.le_refl _⟩, ⟨by (with_reducible repeat (first | apply Kd.R_alloc | apply Kd.R_drewN | apply Kd.R_drew)); exact HO327.out⟩, ⟨by repeat (first | (with_reducible first | exact HB.out | apply below_alloc | apply pw_below_drewN | apply below_drew1) | exact HB.out)⟩⟩
    case rest =>
     clear HC11
     try clear c1
     try clear p2
     try clear c3
     try clear c4
     try clear c5
     try clear c7
     try clear c12
     try clear c16
     try clear c18
     try clear p2
     obtain ⟨kq, x47_10, rfl, HA, HJ10, HO_8, HB⟩ := hcut
     cases kq with
     | zero => exact absurd HA.out (by simp [laws_FnPieces.j1])
     | succ kj10 =>
      have H := HA.out
      clear HA
      simp only [laws_FnPieces.j1] at H
      by_cases c24 : x47_10 = true
      ·subst c24
       have H1 : (some (t325 == 1)) = some r := by rw [if_pos rfl] at H; exact H
       clear H
       have H := H1
       clear H1
       obtain rfl := Option.some.inj H
       go_wp2
       go_ret
       exact ⟨by first | rfl | (simp [errW_none, errW_some] <;> rfl) | (simp [*, errW_none, errW_some] <;> rfl), by repeat (first | (with_reducible first | exact HB.out | apply below_alloc | apply pw_below_drewN | apply below_drew1) | exact HB.out)⟩
      ·replace c24 := Bool.eq_false_iff.mpr c24
       subst c24
       have H1 : ((impl_TextJoin.f t322 t324).bind fun bt330 => (if t325 = 0 then (if bt330.2 = 0 then (laws_FnPieces.j2 kj10 t321 t322 t323 t324 (bt330.1.toList != t321.toList)) else (laws_FnPieces.j2 kj10 t321 t322 t323 t324 true)) else (laws_FnPieces.j2 kj10 t321 t322 t323 t324 true))) = some r := by rw [if_neg (show ¬ (false = true) by decide)] at H; exact H
       clear H
       have H := H1
       clear H1
       replace H := Option.bind_eq_some_iff.mp H
       obtain ⟨⟨t330, t331⟩, A250, H⟩ := H
       replace H : (if t325 = 0 then (if t331 = 0 then (laws_FnPieces.j2 kj10 t321 t322 t323 t324 (t330.toList != t321.toList)) else (laws_FnPieces.j2 kj10 t321 t322 t323 t324 true)) else (laws_FnPieces.j2 kj10 t321 t322 t323 t324 true)) = some r := H
       have A25 := Aside0.mk A250
       clear A250
       have HC26 := Aside0.mk H
       clear H
       obtain ⟨Ao27, co27, eo27⟩ := Kd.R_slice HO_8.out
       subst eo27
       go_upto_region 9 with (first | ((with_reducible refine gate_callee (f := 23) rfl ?_); refine goesL_ (some 53) rfl rfl Tryd.func23 (by kernel_rfl) rfl #[.string t322, .slice Ao27 t324.length co27] rfl (by (try simp only [List.map_toArray, List.map_cons, List.map_nil]); first | done | rfl | (simp only [List.length_drop, List.length_take]; rfl)) ?_; (with_reducible refine (impl_TextJoinS.calls t322 _ _ t324 t330 t331 _ ?side1 ?side2 A25.out (TM.below HT.out (by repeat (first | (with_reducible first | exact HB.out | apply below_alloc | apply pw_below_drewN | apply below_drew1) | exact HB.out))) (by intro ad had; have h_ := HO_8.out; rw [had] at h_; exact spot_of_R h_)).mono ?_); (case side1 => repeat (first | exact (Kd.R_reads' HO_8.out).2.2 | (with_reducible refine Kd.C_alloc ?_ _) | (with_reducible refine Kd.C_drewN ?_ _) | (with_reducible refine Kd.C_drew ?_))); (case side2 => exact (Kd.R_reads' HO_8.out).2.1); rintro e w28 ⟨rfl, hb⟩; refine ⟨_, rfl, ?_⟩; have n0_ := Aside0.mk (Kd.R_below (by (with_reducible repeat (first | apply Kd.R_alloc | apply Kd.R_drewN | apply Kd.R_drew)); exact HO_8.out) hb); have n1_ := Aside0.mk (below_step (by repeat (first | (with_reducible first | exact HB.out | apply below_alloc | apply pw_below_drewN | apply below_drew1) | exact HB.out)) hb); clear HO_8; clear HB; have HO_8 := n0_; have HB := n1_; clear n0_ n1_; (try clear hb); (try clear hb2); (try clear hk); (try clear hi)))
       (try simp only [Act.put, List.setIfInBounds_toArray, List.set_cons_zero, List.set_cons_succ])
       go_cut [66] (fun v66 wc => ∃ (kq : Nat) (x66_25 : Bool), v66 = .bool x66_25 ∧ Aside0 (laws_FnPieces.j2 kq t321 t322 t323 t324 x66_25 = some r) ∧ Aside0 (kq ≤ kj10) ∧ Aside0 (Kd.R Kd.string 9 wc w.heap.size (fun _ => True) (.slice Ao27 t324.length co27) t324) ∧ Aside0 (Below w.heap.size w wc))
       case first =>
        have H := HC26.out
        clear HC26
        by_cases c29 : t325 = 0
        ·rw [if_pos c29] at H
         have c29b0 : (t325 == 0) = true := beq_iff_eq.mpr c29
         have c29b1 : (t325 != 0) = false := bne_eq_false_iff_eq.mpr c29
         clear c29
         (first | rw [c29b0] | (simp only [i64_w, i32_w]; rw [c29b0]) | skip)
         by_cases c30 : t331 = 0
         ·rw [if_pos c30] at H
          have c30b0 : (t331 == 0) = true := beq_iff_eq.mpr c30
          have c30b1 : (t331 != 0) = false := bne_eq_false_iff_eq.mpr c30
          clear c30
          have H' := Aside0.mk H
          clear H
          go_wp2
          go_meet
          case rel => exact ⟨_, ((t330.toList != t321.toList)), (by first | rfl | (simp; done) | (simp [*]; done)), H', ⟨by have := HJ2.out; have := HJ10.out; first | omega | exact Nat.le_refl _⟩, ⟨by (with_reducible repeat (first | apply Kd.R_alloc | apply Kd.R_drewN | apply Kd.R_drew)); exact HO_8.out⟩, ⟨by repeat (first | (with_reducible first | exact HB.out | apply below_alloc | apply pw_below_drewN | apply below_drew1) | exact HB.out)⟩⟩
         ·rw [if_neg c30] at H
          have c30b0 : (t331 == 0) = false := beq_eq_false_iff_ne.mpr c30
          have c30b1 : (t331 != 0) = true := bne_iff_ne.mpr c30
          have H' := Aside0.mk H
          clear H
          go_wp2
          go_meet
          case rel => exact ⟨_, (true), (by first | rfl | (simp; done) | (simp [*]; done)), H', ⟨by have := HJ2.out; have := HJ10.out; first | omega | exact Nat.le_refl _⟩, ⟨by (with_reducible repeat (first | apply Kd.R_alloc | apply Kd.R_drewN | apply Kd.R_drew)); exact HO_8.out⟩, ⟨by repeat (first | (with_reducible first | exact HB.out | apply below_alloc | apply pw_below_drewN | apply below_drew1) | exact HB.out)⟩⟩
        ·rw [if_neg c29] at H
         have c29b0 : (t325 == 0) = false := beq_eq_false_iff_ne.mpr c29
         have c29b1 : (t325 != 0) = true := bne_iff_ne.mpr c29
         (first | rw [c29b0] | (simp only [i64_w, i32_w]; rw [c29b0]) | skip)
         have H' := Aside0.mk H
         clear H
         go_wp2
         go_meet
         case rel => exact ⟨_, (true), (by first | rfl | (simp; done) | (simp [*]; done)), H', ⟨by have := HJ2.out; have := HJ10.out; first | omega | exact Nat.le_refl _⟩, ⟨by (with_reducible repeat (first | apply Kd.R_alloc | apply Kd.R_drewN | apply Kd.R_drew)); exact HO_8.out⟩, ⟨by repeat (first | (with_reducible first | exact HB.out | apply below_alloc | apply pw_below_drewN | apply below_drew1) | exact HB.out)⟩⟩
       case rest =>
        clear HC26
        try clear c1
        try clear c2
        try clear p2
        try clear c3
        try clear c4
        try clear c5
        try clear c7
        try clear c12
        try clear c16
        try clear c18
        try clear c23
        try clear c24
        try clear c29
        try clear c29b0
        try clear c29b1
        try clear c30
        try clear c30b0
        try clear c30b1
        try clear p2
        obtain ⟨kq, x66_25, rfl, HA, HJ25, HO_8, HB⟩ := hcut
        cases kq with
        | zero => exact absurd HA.out (by simp [laws_FnPieces.j2])
        | succ kj25 =>
         have H := HA.out
         clear HA
         simp only [laws_FnPieces.j2] at H
         by_cases c31 : x66_25 = true
         ·subst c31
          have H1 : (none) = some r := by rw [if_pos rfl] at H; exact H
          clear H
          have H := H1
          clear H1
          exact absurd H (by simp)
         ·replace c31 := Bool.eq_false_iff.mpr c31
          subst c31
          have H1 : (laws_FnPieces.l0 kj25 t321 t322 t323 t324 0) = some r := by rw [if_neg (show ¬ (false = true) by decide)] at H; exact H
          clear H
          have H := H1
          clear H1
          have H' := Aside0.mk H
          clear H
          go_wp2
          go_loopg [12] kj25 (fun kq v12 w' => ∃ (x12_4 : Int), v12 = .int .i64 x12_4 ∧ Aside0 (laws_FnPieces.l0 kq t321 t322 t323 t324 x12_4 = some r) ∧ Aside0 (kq ≤ kj25) ∧ Aside0 (Kd.R Kd.string 9 w' w.heap.size (fun _ => True) (.slice Ao27 t324.length co27) t324) ∧ Aside0 (Below w.heap.size w w'))
          case atStart => exact ⟨(0), (by first | rfl | (simp; done) | (simp [*]; done)), H', ⟨Nat.le_refl _⟩, ⟨by (with_reducible repeat (first | apply Kd.R_alloc | apply Kd.R_drewN | apply Kd.R_drew)); exact HO_8.out⟩, ⟨by repeat (first | (with_reducible first | exact HB.out | apply below_alloc | apply pw_below_drewN | apply below_drew1) | exact HB.out)⟩⟩
          case round =>
           clear H'
           try clear c1
           try clear c2
           try clear p2
           try clear c3
           try clear c4
           try clear c5
           try clear c7
           try clear c12
           try clear c16
           try clear c18
           try clear c23
           try clear c24
           try clear c29
           try clear c29b0
           try clear c29b1
           try clear c30
           try clear c30b0
           try clear c30b1
           try clear c31
           try clear p2
           obtain ⟨x12_4, rfl, HA, HK4, HO_8, HB⟩ := hrel
           cases gk with
           | zero => exact absurd HA.out (by simp [laws_FnPieces.l0])
           | succ k4 =>
            have H := HA.out
            clear HA
            simp only [laws_FnPieces.l0] at H
            by_cases c32 : x12_4 < (t324.length : Int)
            ·rw [if_pos c32] at H
             have c32b0 : decide (x12_4 < (t324.length : Int)) = true := decide_eq_true c32
             clear c32
             by_cases c33 : 0 ≤ x12_4
             ·rw [if_pos c33] at H
              have c33b0 : decide (0 ≤ x12_4) = true := decide_eq_true c33
              clear c33
              replace H := Option.bind_eq_some_iff.mp H
              obtain ⟨t333, A340, H⟩ := H
              replace H : (if t333 ≥ 0 then (none) else (laws_FnPieces.l0 k4 t321 t322 t323 t324 (wrap64 (x12_4 + 1)))) = some r := H
              have A34 := Aside0.mk A340
              clear A340
              by_cases c35 : t333 ≥ 0
              ·rw [if_pos c35] at H
               exact absurd H (by simp)
              ·rw [if_neg c35] at H
               have c35b0 : decide (0 ≤ t333) = false := decide_eq_false c35
               clear c35
               have H' := Aside0.mk H
               clear H
               have p332 : 0 ≤ (x12_4 : Int) := of_decide_eq_true (by first | (with_reducible assumption) | assumption)
               have q332 : x12_4 < (t324.length : Int) := of_decide_eq_true (by first | (with_reducible assumption) | assumption)
               obtain ⟨ad332, e332, hx332_0⟩ := Kd.at_string (Kd.R_reads' HO_8.out).2.2 x12_4 p332 q332
               cases e332
               replace p332 := eq_true p332
               replace q332 := eq_true q332
               go_wp2_with (first | ((with_reducible refine gate_callee (f := 27) rfl ?_); refine goesL_ (some 78) rfl rfl Tryd.func27 (by kernel_rfl) rfl #[.string (rdOf ByteArray.empty t324 x12_4), .string t322, .int .i64 0] rfl (by (try simp only [List.map_toArray, List.map_cons, List.map_nil]); first | done | rfl | (simp only [List.length_drop, List.length_take]; rfl)) ?_; (with_reducible refine (impl_TextFind.calls (rdOf ByteArray.empty t324 x12_4) t322 0 t333 _ A34.out (TM.below HT.out (by repeat (first | (with_reducible first | exact HB.out | apply below_alloc | apply pw_below_drewN | apply below_drew1) | exact HB.out)))).mono ?_); rintro e w36 ⟨rfl, hb⟩; refine ⟨_, rfl, ?_⟩; have n0_ := Aside0.mk (Kd.R_below (by (with_reducible repeat (first | apply Kd.R_alloc | apply Kd.R_drewN | apply Kd.R_drew)); exact HO_8.out) hb); have n1_ := Aside0.mk (below_step (by repeat (first | (with_reducible first | exact HB.out | apply below_alloc | apply pw_below_drewN | apply below_drew1) | exact HB.out)) hb); clear HO_8; clear HB; have HO_8 := n0_; have HB := n1_; clear n0_ n1_; (try clear hb); (try clear hb2); (try clear hk); (try clear hi)))
               go_roundg k4
               case measure => have := HJ2.out; have := HJ10.out; have := HJ25.out; have := HK4.out; omega
               case rel => exact ⟨(wrap64 (x12_4 + 1)), (by first | rfl | (simp; done) | (simp [*]; done)), H', ⟨by have := HJ2.out; have := HJ10.out; have := HJ25.out; have := HK4.out; omega⟩, ⟨by (with_reducible repeat (first | apply Kd.R_alloc | apply Kd.R_drewN | apply Kd.R_drew)); exact HO_8.out⟩, ⟨by repeat (first | (with_reducible first | exact HB.out | apply below_alloc | apply pw_below_drewN | apply below_drew1) | exact HB.out)⟩⟩
             ·rw [if_neg c33] at H
              exact absurd H (by simp)
            ·rw [if_neg c32] at H
             have c32b0 : decide (x12_4 < (t324.length : Int)) = false := decide_eq_false c32
             clear c32
             replace H := Option.bind_eq_some_iff.mp H
             obtain ⟨⟨t334, t335⟩, A370, H⟩ := H
             replace H : ((impl_TextJoin.f t323 t324).bind fun bt336 => (if t335 = bt336.2 then (if t334.toList = bt336.1.toList then (some true) else ((spec_TextOk.f k4 t323).bind fun t338 => (if t338 = true then (none) else (some (t335 == 1))))) else ((spec_TextOk.f k4 t323).bind fun t339 => (if t339 = true then (none) else (some (t335 == 1)))))) = some r := H
             have A37 := Aside0.mk A370
             clear A370
             replace H := Option.bind_eq_some_iff.mp H
             obtain ⟨⟨t336, t337⟩, A380, H⟩ := H
             replace H : (if t335 = t337 then (if t334.toList = t336.toList then (some true) else ((spec_TextOk.f k4 t323).bind fun t338 => (if t338 = true then (none) else (some (t335 == 1))))) else ((spec_TextOk.f k4 t323).bind fun t339 => (if t339 = true then (none) else (some (t335 == 1))))) = some r := H
             have A38 := Aside0.mk A380
             clear A380
             by_cases c39 : t335 = t337
             ·rw [if_pos c39] at H
              have c39b0 : (t335 == t337) = true := beq_iff_eq.mpr c39
              have c39b1 : (t335 != t337) = false := bne_eq_false_iff_eq.mpr c39
              clear c39
              by_cases c40 : t334.toList = t336.toList
              ·rw [if_pos c40] at H
               have c40b0 : (t334.toList == t336.toList) = true := beq_iff_eq.mpr c40
               have c40b1 : (t334.toList != t336.toList) = false := bne_eq_false_iff_eq.mpr c40
               clear c40
               obtain rfl := Option.some.inj H
               go_wp2_with (first | ((with_reducible refine gate_callee (f := 40) rfl ?_); refine goesL_ (some 84) rfl rfl Tryd.func40 (by kernel_rfl) rfl #[.string t321, .string t322, .string t323] rfl (by (try simp only [List.map_toArray, List.map_cons, List.map_nil]); first | done | rfl | (simp only [List.length_drop, List.length_take]; rfl)) ?_; (with_reducible refine (impl_TextReplace.calls t321 t322 t323 t334 t335 _ A37.out (TM.below HT.out (by repeat (first | (with_reducible first | exact HB.out | apply below_alloc | apply pw_below_drewN | apply below_drew1) | exact HB.out)))).mono ?_); rintro e w41 ⟨rfl, hb⟩; refine ⟨_, rfl, ?_⟩; have n0_ := Aside0.mk (Kd.R_below (by (with_reducible repeat (first | apply Kd.R_alloc | apply Kd.R_drewN | apply Kd.R_drew)); exact HO_8.out) hb); have n1_ := Aside0.mk (below_step (by repeat (first | (with_reducible first | exact HB.out | apply below_alloc | apply pw_below_drewN | apply below_drew1) | exact HB.out)) hb); clear HO_8; clear HB; have HO_8 := n0_; have HB := n1_; clear n0_ n1_; (try clear hb); (try clear hb2); (try clear hk); (try clear hi)) | ((with_reducible refine gate_callee (f := 23) rfl ?_); refine goesL_ (some 90) rfl rfl Tryd.func23 (by kernel_rfl) rfl #[.string t323, .slice Ao27 t324.length co27] rfl (by (try simp only [List.map_toArray, List.map_cons, List.map_nil]); first | done | rfl | (simp only [List.length_drop, List.length_take]; rfl)) ?_; (with_reducible refine (impl_TextJoinS.calls t323 _ _ t324 t336 t337 _ ?side1 ?side2 A38.out (TM.below HT.out (by repeat (first | (with_reducible first | exact HB.out | apply below_alloc | apply pw_below_drewN | apply below_drew1) | exact HB.out))) (by intro ad had; have h_ := HO_8.out; rw [had] at h_; exact spot_of_R h_)).mono ?_); (case side1 => repeat (first | exact (Kd.R_reads' HO_8.out).2.2 | (with_reducible refine Kd.C_alloc ?_ _) | (with_reducible refine Kd.C_drewN ?_ _) | (with_reducible refine Kd.C_drew ?_))); (case side2 => exact (Kd.R_reads' HO_8.out).2.1); rintro e w42 ⟨rfl, hb⟩; refine ⟨_, rfl, ?_⟩; have n0_ := Aside0.mk (Kd.R_below (by (with_reducible repeat (first | apply Kd.R_alloc | apply Kd.R_drewN | apply Kd.R_drew)); exact HO_8.out) hb); have n1_ := Aside0.mk (below_step (by repeat (first | (with_reducible first | exact HB.out | apply below_alloc | apply pw_below_drewN | apply below_drew1) | exact HB.out)) hb); clear HO_8; clear HB; have HO_8 := n0_; have HB := n1_; clear n0_ n1_; (try clear hb); (try clear hb2); (try clear hk); (try clear hi)))
               go_ret
               exact ⟨by first | rfl | (simp [errW_none, errW_some] <;> rfl) | (simp [*, errW_none, errW_some] <;> rfl), by repeat (first | (with_reducible first | exact HB.out | apply below_alloc | apply pw_below_drewN | apply below_drew1) | exact HB.out)⟩
              ·rw [if_neg c40] at H
               have c40b0 : (t334.toList == t336.toList) = false := beq_eq_false_iff_ne.mpr c40
               have c40b1 : (t334.toList != t336.toList) = true := bne_iff_ne.mpr c40
               replace H := Option.bind_eq_some_iff.mp H
               obtain ⟨t338, A430, H⟩ := H
               replace H : (if t338 = true then (none) else (some (t335 == 1))) = some r := H
               have A43 := Aside0.mk A430
               clear A430
               by_cases c44 : t338 = true
               ·subst c44
                have H1 : (none) = some r := by rw [if_pos rfl] at H; exact H
                clear H
                have H := H1
                clear H1
                exact absurd H (by simp)
               ·replace c44 := Bool.eq_false_iff.mpr c44
                subst c44
                have H1 : (some (t335 == 1)) = some r := by rw [if_neg (show ¬ (false = true) by decide)] at H; exact H
                clear H
                have H := H1
                clear H1
                obtain rfl := Option.some.inj H
                go_wp2_with (first | ((with_reducible refine gate_callee (f := 40) rfl ?_); refine goesL_ (some 84) rfl rfl Tryd.func40 (by kernel_rfl) rfl #[.string t321, .string t322, .string t323] rfl (by (try simp only [List.map_toArray, List.map_cons, List.map_nil]); first | done | rfl | (simp only [List.length_drop, List.length_take]; rfl)) ?_; (with_reducible refine (impl_TextReplace.calls t321 t322 t323 t334 t335 _ A37.out (TM.below HT.out (by repeat (first | (with_reducible first | exact HB.out | apply below_alloc | apply pw_below_drewN | apply below_drew1) | exact HB.out)))).mono ?_); rintro e w45 ⟨rfl, hb⟩; refine ⟨_, rfl, ?_⟩; have n0_ := Aside0.mk (Kd.R_below (by (with_reducible repeat (first | apply Kd.R_alloc | apply Kd.R_drewN | apply Kd.R_drew)); exact HO_8.out) hb); have n1_ := Aside0.mk (below_step (by repeat (first | (with_reducible first | exact HB.out | apply below_alloc | apply pw_below_drewN | apply below_drew1) | exact HB.out)) hb); clear HO_8; clear HB; have HO_8 := n0_; have HB := n1_; clear n0_ n1_; (try clear hb); (try clear hb2); (try clear hk); (try clear hi)) | ((with_reducible refine gate_callee (f := 23) rfl ?_); refine goesL_ (some 90) rfl rfl Tryd.func23 (by kernel_rfl) rfl #[.string t323, .slice Ao27 t324.length co27] rfl (by (try simp only [List.map_toArray, List.map_cons, List.map_nil]); first | done | rfl | (simp only [List.length_drop, List.length_take]; rfl)) ?_; (with_reducible refine (impl_TextJoinS.calls t323 _ _ t324 t336 t337 _ ?side1 ?side2 A38.out (TM.below HT.out (by repeat (first | (with_reducible first | exact HB.out | apply below_alloc | apply pw_below_drewN | apply below_drew1) | exact HB.out))) (by intro ad had; have h_ := HO_8.out; rw [had] at h_; exact spot_of_R h_)).mono ?_); (case side1 => repeat (first | exact (Kd.R_reads' HO_8.out).2.2 | (with_reducible refine Kd.C_alloc ?_ _) | (with_reducible refine Kd.C_drewN ?_ _) | (with_reducible refine Kd.C_drew ?_))); (case side2 => exact (Kd.R_reads' HO_8.out).2.1); rintro e w46 ⟨rfl, hb⟩; refine ⟨_, rfl, ?_⟩; have n0_ := Aside0.mk (Kd.R_below (by (with_reducible repeat (first | apply Kd.R_alloc | apply Kd.R_drewN | apply Kd.R_drew)); exact HO_8.out) hb); have n1_ := Aside0.mk (below_step (by repeat (first | (with_reducible first | exact HB.out | apply below_alloc | apply pw_below_drewN | apply below_drew1) | exact HB.out)) hb); clear HO_8; clear HB; have HO_8 := n0_; have HB := n1_; clear n0_ n1_; (try clear hb); (try clear hb2); (try clear hk); (try clear hi)) | (go_at_call 34; (with_reducible refine (spec_TextOk.calls k4 t323 false _ A43.out).mono ?_); rintro e w47 ⟨rfl, hb⟩; have n0_ := Aside0.mk (Kd.R_below (by (with_reducible repeat (first | apply Kd.R_alloc | apply Kd.R_drewN | apply Kd.R_drew)); exact HO_8.out) hb); have n1_ := Aside0.mk (below_step (by repeat (first | (with_reducible first | exact HB.out | apply below_alloc | apply pw_below_drewN | apply below_drew1) | exact HB.out)) hb); clear HO_8; clear HB; have HO_8 := n0_; have HB := n1_; clear n0_ n1_; (try clear hb); (try clear hb2); (try clear hk); (try clear hi)))
                go_ret
                exact ⟨by first | rfl | (simp [errW_none, errW_some] <;> rfl) | (simp [*, errW_none, errW_some] <;> rfl), by repeat (first | (with_reducible first | exact HB.out | apply below_alloc | apply pw_below_drewN | apply below_drew1) | exact HB.out)⟩
             ·rw [if_neg c39] at H
              have c39b0 : (t335 == t337) = false := beq_eq_false_iff_ne.mpr c39
              have c39b1 : (t335 != t337) = true := bne_iff_ne.mpr c39
              replace H := Option.bind_eq_some_iff.mp H
              obtain ⟨t339, A480, H⟩ := H
              replace H : (if t339 = true then (none) else (some (t335 == 1))) = some r := H
              have A48 := Aside0.mk A480
              clear A480
              by_cases c49 : t339 = true
              ·subst c49
               have H1 : (none) = some r := by rw [if_pos rfl] at H; exact H
               clear H
               have H := H1
               clear H1
               exact absurd H (by simp)
              ·replace c49 := Bool.eq_false_iff.mpr c49
               subst c49
               have H1 : (some (t335 == 1)) = some r := by rw [if_neg (show ¬ (false = true) by decide)] at H; exact H
               clear H
               have H := H1
               clear H1
               obtain rfl := Option.some.inj H
               go_wp2_with (first | ((with_reducible refine gate_callee (f := 40) rfl ?_); refine goesL_ (some 84) rfl rfl Tryd.func40 (by kernel_rfl) rfl #[.string t321, .string t322, .string t323] rfl (by (try simp only [List.map_toArray, List.map_cons, List.map_nil]); first | done | rfl | (simp only [List.length_drop, List.length_take]; rfl)) ?_; (with_reducible refine (impl_TextReplace.calls t321 t322 t323 t334 t335 _ A37.out (TM.below HT.out (by repeat (first | (with_reducible first | exact HB.out | apply below_alloc | apply pw_below_drewN | apply below_drew1) | exact HB.out)))).mono ?_); rintro e w50 ⟨rfl, hb⟩; refine ⟨_, rfl, ?_⟩; have n0_ := Aside0.mk (Kd.R_below (by (with_reducible repeat (first | apply Kd.R_alloc | apply Kd.R_drewN | apply Kd.R_drew)); exact HO_8.out) hb); have n1_ := Aside0.mk (below_step (by repeat (first | (with_reducible first | exact HB.out | apply below_alloc | apply pw_below_drewN | apply below_drew1) | exact HB.out)) hb); clear HO_8; clear HB; have HO_8 := n0_; have HB := n1_; clear n0_ n1_; (try clear hb); (try clear hb2); (try clear hk); (try clear hi)) | ((with_reducible refine gate_callee (f := 23) rfl ?_); refine goesL_ (some 90) rfl rfl Tryd.func23 (by kernel_rfl) rfl #[.string t323, .slice Ao27 t324.length co27] rfl (by (try simp only [List.map_toArray, List.map_cons, List.map_nil]); first | done | rfl | (simp only [List.length_drop, List.length_take]; rfl)) ?_; (with_reducible refine (impl_TextJoinS.calls t323 _ _ t324 t336 t337 _ ?side1 ?side2 A38.out (TM.below HT.out (by repeat (first | (with_reducible first | exact HB.out | apply below_alloc | apply pw_below_drewN | apply below_drew1) | exact HB.out))) (by intro ad had; have h_ := HO_8.out; rw [had] at h_; exact spot_of_R h_)).mono ?_); (case side1 => repeat (first | exact (Kd.R_reads' HO_8.out).2.2 | (with_reducible refine Kd.C_alloc ?_ _) | (with_reducible refine Kd.C_drewN ?_ _) | (with_reducible refine Kd.C_drew ?_))); (case side2 => exact (Kd.R_reads' HO_8.out).2.1); rintro e w51 ⟨rfl, hb⟩; refine ⟨_, rfl, ?_⟩; have n0_ := Aside0.mk (Kd.R_below (by (with_reducible repeat (first | apply Kd.R_alloc | apply Kd.R_drewN | apply Kd.R_drew)); exact HO_8.out) hb); have n1_ := Aside0.mk (below_step (by repeat (first | (with_reducible first | exact HB.out | apply below_alloc | apply pw_below_drewN | apply below_drew1) | exact HB.out)) hb); clear HO_8; clear HB; have HO_8 := n0_; have HB := n1_; clear n0_ n1_; (try clear hb); (try clear hb2); (try clear hk); (try clear hi)) | (go_at_call 34; (with_reducible refine (spec_TextOk.calls k4 t323 false _ A48.out).mono ?_); rintro e w52 ⟨rfl, hb⟩; have n0_ := Aside0.mk (Kd.R_below (by (with_reducible repeat (first | apply Kd.R_alloc | apply Kd.R_drewN | apply Kd.R_drew)); exact HO_8.out) hb); have n1_ := Aside0.mk (below_step (by repeat (first | (with_reducible first | exact HB.out | apply below_alloc | apply pw_below_drewN | apply below_drew1) | exact HB.out)) hb); clear HO_8; clear HB; have HO_8 := n0_; have HB := n1_; clear n0_ n1_; (try clear hb); (try clear hb2); (try clear hk); (try clear hi)))
               go_ret
               exact ⟨by first | rfl | (simp [errW_none, errW_some] <;> rfl) | (simp [*, errW_none, errW_some] <;> rfl), by repeat (first | (with_reducible first | exact HB.out | apply below_alloc | apply pw_below_drewN | apply below_drew1) | exact HB.out)⟩


end Go.Proofs.YtfgiodolgmfdoaaDoor.PT
