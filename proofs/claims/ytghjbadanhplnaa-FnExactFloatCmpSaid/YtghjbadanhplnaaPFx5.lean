/- Go functions as Lean functions, and that each Go function comes to just that; printed by a program of this session (gprint.py over the kit's print.py). No condition. -/
import Derived.Test.YtghjbadanhplnaaPFx0
import Derived.Test.YtghjbadanhplnaaPFx1
import Derived.Test.YtghjbadanhplnaaPFx3
import Derived.Test.YtghjbadanhplnaaPFx4
import Derived.Test.YtghjbadanhplnaaGFlo
namespace Go.Proofs.Ytghjbadanhplnaa.PF
open Go.RowKit Go.Proofs.YtghjbadanhplnaaW.PrintWords Go.Proofs.YtghjbadanhplnaaW.PrintLast Go.Proofs.YtghjbadanhplnaaW.PrintMore
attribute [local go_sem] max2_int min2_int max_two min_two max_three min_three max_four min_four   -- for this text's walks alone
set_option linter.unusedVariables false
set_option linter.unusedSimpArgs false

/-! ### spec_FloatCmp: function 6 -/
mutual
def spec_FloatCmp.j0 : Nat → Int → Int → Bool → Option (Int)
 | 0, _, _, _ => none
 | k + 1, x0, x1, x10 => if x10 = true then (some 2) else ((spec_l2IsInf.f x0).bind fun t265 => (if t265 = true then (spec_FloatCmp.j1 k x0 x1 true) else ((spec_l2IsInf.f x1).bind fun t266 => (spec_FloatCmp.j1 k x0 x1 t266))))
def spec_FloatCmp.j1 : Nat → Int → Int → Bool → Option (Int)
 | 0, _, _, _ => none
 | k + 1, x0, x1, x16 => if x16 = true then (if x0 = x1 then (some 0) else (if x0 = 9218868437227405312 then (spec_FloatCmp.j2 k true) else (spec_FloatCmp.j2 k (x1 == 18442240474082181120)))) else ((spec_l2Whole.f k x0).bind fun bt267 => ((spec_l2Whole.f k x1).bind fun bt271 => ((spec_l2Order.f k bt267.1 bt267.2 bt271.1 bt271.2).bind fun t275 => (some t275))))
def spec_FloatCmp.j2 : Nat → Bool → Option (Int)
 | 0, _ => none
 | k + 1, x25 => if x25 = true then (some 1) else (some (-1))
end
def spec_FloatCmp.f (k : Nat) (a0 : Int) (a1 : Int) : Option (Int) := (spec_l2IsNan.f a0).bind fun t263 => (if t263 = true then (spec_FloatCmp.j0 k a0 a1 true) else ((spec_l2IsNan.f a1).bind fun t264 => (spec_FloatCmp.j0 k a0 a1 t264)))
theorem spec_FloatCmp.mono_l : ∀ k, (∀ y0 y1 y2, LeO (spec_FloatCmp.j0 k y0 y1 y2) (spec_FloatCmp.j0 (k + 1) y0 y1 y2)) ∧ (∀ y0 y1 y2, LeO (spec_FloatCmp.j1 k y0 y1 y2) (spec_FloatCmp.j1 (k + 1) y0 y1 y2)) ∧ (∀ y0, LeO (spec_FloatCmp.j2 k y0) (spec_FloatCmp.j2 (k + 1) y0))
 | 0 => ⟨fun _ _ _ r h => by simp [spec_FloatCmp.j0] at h, fun _ _ _ r h => by simp [spec_FloatCmp.j1] at h, fun _ r h => by simp [spec_FloatCmp.j2] at h⟩
 | k + 1 => by
  obtain ⟨ih0, ih1, ih2⟩ := spec_FloatCmp.mono_l k
  refine ⟨?_, ?_, ?_⟩
  ·intro y0 y1 y2
   unfold spec_FloatCmp.j0
   repeat' first
   | (with_reducible exact ih0 _ _ _)
   | (with_reducible exact ih1 _ _ _)
   | (with_reducible exact ih2 _)
   | (with_reducible exact spec_l2Order.mono _ _ _ _ _)
   | (with_reducible exact spec_l2Whole.mono _ _)
   | (with_reducible exact LeO.refl _)
   | (with_reducible exact LeO.none _)
   | (with_reducible refine LeO.ite ?_ ?_)
   | (with_reducible refine LeO.bind ?_ (fun _ => ?_))
   | exact ih0 _ _ _
   | exact ih1 _ _ _
   | exact ih2 _
   | exact spec_l2Order.mono _ _ _ _ _
   | exact spec_l2Whole.mono _ _
   | exact LeO.none _
   | refine LeO.ite ?_ ?_
   | refine LeO.bind ?_ (fun _ => ?_)
  ·intro y0 y1 y2
   unfold spec_FloatCmp.j1
   repeat' first
   | (with_reducible exact ih0 _ _ _)
   | (with_reducible exact ih1 _ _ _)
   | (with_reducible exact ih2 _)
   | (with_reducible exact spec_l2Order.mono _ _ _ _ _)
   | (with_reducible exact spec_l2Whole.mono _ _)
   | (with_reducible exact LeO.refl _)
   | (with_reducible exact LeO.none _)
   | (with_reducible refine LeO.ite ?_ ?_)
   | (with_reducible refine LeO.bind ?_ (fun _ => ?_))
   | exact ih0 _ _ _
   | exact ih1 _ _ _
   | exact ih2 _
   | exact spec_l2Order.mono _ _ _ _ _
   | exact spec_l2Whole.mono _ _
   | exact LeO.none _
   | refine LeO.ite ?_ ?_
   | refine LeO.bind ?_ (fun _ => ?_)
  ·intro y0
   unfold spec_FloatCmp.j2
   repeat' first
   | (with_reducible exact ih0 _ _ _)
   | (with_reducible exact ih1 _ _ _)
   | (with_reducible exact ih2 _)
   | (with_reducible exact spec_l2Order.mono _ _ _ _ _)
   | (with_reducible exact spec_l2Whole.mono _ _)
   | (with_reducible exact LeO.refl _)
   | (with_reducible exact LeO.none _)
   | (with_reducible refine LeO.ite ?_ ?_)
   | (with_reducible refine LeO.bind ?_ (fun _ => ?_))
   | exact ih0 _ _ _
   | exact ih1 _ _ _
   | exact ih2 _
   | exact spec_l2Order.mono _ _ _ _ _
   | exact spec_l2Whole.mono _ _
   | exact LeO.none _
   | refine LeO.ite ?_ ?_
   | refine LeO.bind ?_ (fun _ => ?_)
theorem spec_FloatCmp.mono : ∀ a0 a1 k, LeO (spec_FloatCmp.f k a0 a1) (spec_FloatCmp.f (k + 1) a0 a1) := by
 intro a0 a1 k
 obtain ⟨ih0, ih1, ih2⟩ := spec_FloatCmp.mono_l k
 unfold spec_FloatCmp.f
 repeat' first
   | (with_reducible exact ih0 _ _ _)
   | (with_reducible exact ih1 _ _ _)
   | (with_reducible exact ih2 _)
   | (with_reducible exact spec_l2Order.mono _ _ _ _ _)
   | (with_reducible exact spec_l2Whole.mono _ _)
   | (with_reducible exact LeO.refl _)
   | (with_reducible exact LeO.none _)
   | (with_reducible refine LeO.ite ?_ ?_)
   | (with_reducible refine LeO.bind ?_ (fun _ => ?_))
   | exact ih0 _ _ _
   | exact ih1 _ _ _
   | exact ih2 _
   | exact spec_l2Order.mono _ _ _ _ _
   | exact spec_l2Whole.mono _ _
   | exact LeO.none _
   | refine LeO.ite ?_ ?_
   | refine LeO.bind ?_ (fun _ => ?_)
set_option maxHeartbeats 8000000 in
set_option maxRecDepth 100000 in
theorem spec_FloatCmp.calls (k : Nat) (a0 : Int) (a1 : Int) (r : Int) (w : World) (h : spec_FloatCmp.f k a0 a1 = some r) :
  Calls Try.prog 6 #[.int .u64 a0, .int .u64 a1] w fun e w' => e = .returned (.int .i64 r) ∧ Below w.heap.size w w' := by
 have HB := Aside0.mk (Below.refl w.heap.size w)
 have H : ((spec_l2IsNan.f a0).bind fun t263 => (if t263 = true then (spec_FloatCmp.j0 k a0 a1 true) else ((spec_l2IsNan.f a1).bind fun t264 => (spec_FloatCmp.j0 k a0 a1 t264)))) = some r := h
 clear h
 have HC3 := Aside0.mk H
 clear H
 go_enter Try.func6, Try.ntmps6
 go_upto_region 1 with (fail)
 go_cut [10] (fun v10 wc => ∃ (kq : Nat) (x10_2 : Bool), v10 = .bool x10_2 ∧ Aside0 (spec_FloatCmp.j0 kq a0 a1 x10_2 = some r) ∧ Aside0 (kq ≤ k) ∧ Aside0 (Below w.heap.size w wc))
 case first =>
  have H := HC3.out
  clear HC3
  replace H := Option.bind_eq_some_iff.mp H
  obtain ⟨t263, A40, H⟩ := H
  replace H : (if t263 = true then (spec_FloatCmp.j0 k a0 a1 true) else ((spec_l2IsNan.f a1).bind fun t264 => (spec_FloatCmp.j0 k a0 a1 t264))) = some r := H
  have A4 := Aside0.mk A40
  clear A40
  by_cases c5 : t263 = true
  ·subst c5
   have H1 : (spec_FloatCmp.j0 k a0 a1 true) = some r := by rw [if_pos rfl] at H; exact H
   clear H
   have H := H1
   clear H1
   have H' := Aside0.mk H
   clear H
   go_wp2_with (first | ((with_reducible refine gate_callee (f := 12) rfl ?_); refine goesL_ (some 6) rfl rfl Try.func12 (by kernel_rfl) rfl #[.int .u64 a0] rfl (by (try simp only [List.map_toArray, List.map_cons, List.map_nil]); first | done | rfl | (simp only [List.length_drop, List.length_take]; rfl)) ?_; (with_reducible refine (spec_l2IsNan.calls a0 true _ A4.out).mono ?_); rintro e w' ⟨rfl, ⟨nd, rfl⟩⟩; refine ⟨_, rfl, ?_⟩))
   go_meet
   case rel => exact ⟨_, (true), (by first | rfl | (simp; done) | (simp [*]; done)), H', ⟨by first | omega | exact Nat.le_refl _⟩, ⟨by repeat (first | (with_reducible first | exact HB.out | apply below_alloc | apply pw_below_drewN | apply below_drew1) | exact HB.out)⟩⟩
  ·replace c5 := Bool.eq_false_iff.mpr c5
   subst c5
   have H1 : ((spec_l2IsNan.f a1).bind fun t264 => (spec_FloatCmp.j0 k a0 a1 t264)) = some r := by rw [if_neg (show ¬ (false = true) by decide)] at H; exact H
   clear H
   have H := H1
   clear H1
   replace H := Option.bind_eq_some_iff.mp H
   obtain ⟨t264, A60, H⟩ := H
   replace H : (spec_FloatCmp.j0 k a0 a1 t264) = some r := H
   have A6 := Aside0.mk A60
   clear A60
   have H' := Aside0.mk H
   clear H
   go_wp2_with (first | ((with_reducible refine gate_callee (f := 12) rfl ?_); refine goesL_ (some 6) rfl rfl Try.func12 (by kernel_rfl) rfl #[.int .u64 a0] rfl (by (try simp only [List.map_toArray, List.map_cons, List.map_nil]); first | done | rfl | (simp only [List.length_drop, List.length_take]; rfl)) ?_; (with_reducible refine (spec_l2IsNan.calls a0 false _ A4.out).mono ?_); rintro e w' ⟨rfl, ⟨nd, rfl⟩⟩; refine ⟨_, rfl, ?_⟩) | (go_at_call 12; (with_reducible refine (spec_l2IsNan.calls a1 t264 _ A6.out).mono ?_); rintro e w' ⟨rfl, ⟨nd, rfl⟩⟩))
   go_meet
   case rel => exact ⟨_, (t264), (by first | rfl | (simp; done) | (simp [*]; done)), H', ⟨by first | omega | exact Nat.le_refl _⟩, ⟨by repeat (first | (with_reducible first | exact HB.out | apply below_alloc | apply pw_below_drewN | apply below_drew1) | exact HB.out)⟩⟩
 case rest =>
  clear HC3
  try clear c1
  try clear p2
  try clear c5
  try clear c6
  obtain ⟨kq, x10_2, rfl, HA, HJ2, HB⟩ := hcut
  cases kq with
  | zero => exact absurd HA.out (by simp [spec_FloatCmp.j0])
  | succ kj2 =>
   have H := HA.out
   clear HA
   simp only [spec_FloatCmp.j0] at H
   by_cases c7 : x10_2 = true
   ·subst c7
    have H1 : (some 2) = some r := by rw [if_pos rfl] at H; exact H
    clear H
    have H := H1
    clear H1
    obtain rfl := Option.some.inj H
    go_wp2
    go_ret
    exact ⟨by first | rfl | (simp [errW_none, errW_some] <;> rfl) | (simp [*, errW_none, errW_some] <;> rfl), by repeat (first | (with_reducible first | exact HB.out | apply below_alloc | apply pw_below_drewN | apply below_drew1) | exact HB.out)⟩
   ·replace c7 := Bool.eq_false_iff.mpr c7
    subst c7
    have H1 : ((spec_l2IsInf.f a0).bind fun t265 => (if t265 = true then (spec_FloatCmp.j1 kj2 a0 a1 true) else ((spec_l2IsInf.f a1).bind fun t266 => (spec_FloatCmp.j1 kj2 a0 a1 t266)))) = some r := by rw [if_neg (show ¬ (false = true) by decide)] at H; exact H
    clear H
    have H := H1
    clear H1
    have HC8 := Aside0.mk H
    clear H
    go_upto_region 3 with (fail)
    go_cut [16] (fun v16 wc => ∃ (kq : Nat) (x16_7 : Bool), v16 = .bool x16_7 ∧ Aside0 (spec_FloatCmp.j1 kq a0 a1 x16_7 = some r) ∧ Aside0 (kq ≤ kj2) ∧ Aside0 (Below w.heap.size w wc))
    case first =>
     have H := HC8.out
     clear HC8
     replace H := Option.bind_eq_some_iff.mp H
     obtain ⟨t265, A90, H⟩ := H
     replace H : (if t265 = true then (spec_FloatCmp.j1 kj2 a0 a1 true) else ((spec_l2IsInf.f a1).bind fun t266 => (spec_FloatCmp.j1 kj2 a0 a1 t266))) = some r := H
     have A9 := Aside0.mk A90
     clear A90
     by_cases c10 : t265 = true
     ·subst c10
      have H1 : (spec_FloatCmp.j1 kj2 a0 a1 true) = some r := by rw [if_pos rfl] at H; exact H
      clear H
      have H := H1
      clear H1
      have H' := Aside0.mk H
      clear H
      go_wp2_with (first | ((with_reducible refine gate_callee (f := 13) rfl ?_); refine goesL_ (some 12) rfl rfl Try.func13 (by kernel_rfl) rfl #[.int .u64 a0] rfl (by (try simp only [List.map_toArray, List.map_cons, List.map_nil]); first | done | rfl | (simp only [List.length_drop, List.length_take]; rfl)) ?_; (with_reducible refine (spec_l2IsInf.calls a0 true _ A9.out).mono ?_); rintro e w' ⟨rfl, ⟨nd, rfl⟩⟩; refine ⟨_, rfl, ?_⟩))
      go_meet
      case rel => exact ⟨_, (true), (by first | rfl | (simp; done) | (simp [*]; done)), H', ⟨by have := HJ2.out; first | omega | exact Nat.le_refl _⟩, ⟨by repeat (first | (with_reducible first | exact HB.out | apply below_alloc | apply pw_below_drewN | apply below_drew1) | exact HB.out)⟩⟩
     ·replace c10 := Bool.eq_false_iff.mpr c10
      subst c10
      have H1 : ((spec_l2IsInf.f a1).bind fun t266 => (spec_FloatCmp.j1 kj2 a0 a1 t266)) = some r := by rw [if_neg (show ¬ (false = true) by decide)] at H; exact H
      clear H
      have H := H1
      clear H1
      replace H := Option.bind_eq_some_iff.mp H
      obtain ⟨t266, A110, H⟩ := H
      replace H : (spec_FloatCmp.j1 kj2 a0 a1 t266) = some r := H
      have A11 := Aside0.mk A110
      clear A110
      have H' := Aside0.mk H
      clear H
      go_wp2_with (first | ((with_reducible refine gate_callee (f := 13) rfl ?_); refine goesL_ (some 12) rfl rfl Try.func13 (by kernel_rfl) rfl #[.int .u64 a0] rfl (by (try simp only [List.map_toArray, List.map_cons, List.map_nil]); first | done | rfl | (simp only [List.length_drop, List.length_take]; rfl)) ?_; (with_reducible refine (spec_l2IsInf.calls a0 false _ A9.out).mono ?_); rintro e w' ⟨rfl, ⟨nd, rfl⟩⟩; refine ⟨_, rfl, ?_⟩) | (go_at_call 13; (with_reducible refine (spec_l2IsInf.calls a1 t266 _ A11.out).mono ?_); rintro e w' ⟨rfl, ⟨nd, rfl⟩⟩))
      go_meet
      case rel => exact ⟨_, (t266), (by first | rfl | (simp; done) | (simp [*]; done)), H', ⟨by have := HJ2.out; first | omega | exact Nat.le_refl _⟩, ⟨by repeat (first | (with_reducible first | exact HB.out | apply below_alloc | apply pw_below_drewN | apply below_drew1) | exact HB.out)⟩⟩
    case rest =>
     clear HC8
     try clear c1
     try clear p2
     try clear c5
     try clear c6
     try clear c7
     try clear c10
     try clear p2
     obtain ⟨kq, x16_7, rfl, HA, HJ7, HB⟩ := hcut
     cases kq with
     | zero => exact absurd HA.out (by simp [spec_FloatCmp.j1])
     | succ kj7 =>
      have H := HA.out
      clear HA
      simp only [spec_FloatCmp.j1] at H
      by_cases c12 : x16_7 = true
      ·subst c12
       have H1 : (if a0 = a1 then (some 0) else (if a0 = 9218868437227405312 then (spec_FloatCmp.j2 kj7 true) else (spec_FloatCmp.j2 kj7 (a1 == 18442240474082181120)))) = some r := by rw [if_pos rfl] at H; exact H
       clear H
       have H := H1
       clear H1
       by_cases c13 : a0 = a1
       ·rw [if_pos c13] at H
        have c13b0 : (a0 == a1) = true := beq_iff_eq.mpr c13
        have c13b1 : (a0 != a1) = false := bne_eq_false_iff_eq.mpr c13
        clear c13
        obtain rfl := Option.some.inj H
        go_wp2
        go_ret
        exact ⟨by first | rfl | (simp [errW_none, errW_some] <;> rfl) | (simp [*, errW_none, errW_some] <;> rfl), by repeat (first | (with_reducible first | exact HB.out | apply below_alloc | apply pw_below_drewN | apply below_drew1) | exact HB.out)⟩
       ·rw [if_neg c13] at H
        have c13b0 : (a0 == a1) = false := beq_eq_false_iff_ne.mpr c13
        have c13b1 : (a0 != a1) = true := bne_iff_ne.mpr c13
        have HC14 := Aside0.mk H
        clear H
        go_upto_region 6 with (fail)
        go_cut [25] (fun v25 wc => ∃ (kq : Nat) (x25_13 : Bool), v25 = .bool x25_13 ∧ Aside0 (spec_FloatCmp.j2 kq x25_13 = some r) ∧ Aside0 (kq ≤ kj7) ∧ Aside0 (Below w.heap.size w wc))
        case first =>
         have H := HC14.out
         clear HC14
         by_cases c15 : a0 = 9218868437227405312
         ·rw [if_pos c15] at H
          have c15b0 : (a0 == 9218868437227405312) = true := beq_iff_eq.mpr c15
          have c15b1 : (a0 != 9218868437227405312) = false := bne_eq_false_iff_eq.mpr c15
          clear c15
          (first | rw [c15b0] | (simp only [i64_w, i32_w]; rw [c15b0]) | skip)
          have H' := Aside0.mk H
          clear H
          go_wp2
          go_meet
          case rel => exact ⟨_, (true), (by first | rfl | (simp; done) | (simp [*]; done)), H', ⟨by have := HJ2.out; have := HJ7.out; first | omega | exact Nat.le_refl _⟩, ⟨by repeat (first | (with_reducible first | exact HB.out | apply below_alloc | apply pw_below_drewN | apply below_drew1) | exact HB.out)⟩⟩
         ·rw [if_neg c15] at H
          have c15b0 : (a0 == 9218868437227405312) = false := beq_eq_false_iff_ne.mpr c15
          have c15b1 : (a0 != 9218868437227405312) = true := bne_iff_ne.mpr c15
          (first | rw [c15b0] | (simp only [i64_w, i32_w]; rw [c15b0]) | skip)
          have H' := Aside0.mk H
          clear H
          go_wp2
          go_meet
          case rel => exact ⟨_, ((a1 == 18442240474082181120)), (by first | rfl | (simp; done) | (simp [*]; done)), H', ⟨by have := HJ2.out; have := HJ7.out; first | omega | exact Nat.le_refl _⟩, ⟨by repeat (first | (with_reducible first | exact HB.out | apply below_alloc | apply pw_below_drewN | apply below_drew1) | exact HB.out)⟩⟩
        case rest =>
         clear HC14
         try clear c1
         try clear p2
         try clear c5
         try clear c6
         try clear c7
         try clear c10
         try clear c12
         try clear c13
         try clear c13b0
         try clear c13b1
         try clear c15
         try clear c15b0
         try clear c15b1
         try clear p2
         obtain ⟨kq, x25_13, rfl, HA, HJ13, HB⟩ := hcut
         cases kq with
         | zero => exact absurd HA.out (by simp [spec_FloatCmp.j2])
         | succ kj13 =>
          have H := HA.out
          clear HA
          simp only [spec_FloatCmp.j2] at H
          by_cases c16 : x25_13 = true
          ·subst c16
           have H1 : (some 1) = some r := by rw [if_pos rfl] at H; exact H
           clear H
           have H := H1
           clear H1
           obtain rfl := Option.some.inj H
           go_wp2
           go_ret
           exact ⟨by first | rfl | (simp [errW_none, errW_some] <;> rfl) | (simp [*, errW_none, errW_some] <;> rfl), by repeat (first | (with_reducible first | exact HB.out | apply below_alloc | apply pw_below_drewN | apply below_drew1) | exact HB.out)⟩
          ·replace c16 := Bool.eq_false_iff.mpr c16
           subst c16
           have H1 : (some (-1)) = some r := by rw [if_neg (show ¬ (false = true) by decide)] at H; exact H
           clear H
           have H := H1
           clear H1
           obtain rfl := Option.some.inj H
           go_wp2
           go_ret
           exact ⟨by first | rfl | (simp [errW_none, errW_some] <;> rfl) | (simp [*, errW_none, errW_some] <;> rfl), by repeat (first | (with_reducible first | exact HB.out | apply below_alloc | apply pw_below_drewN | apply below_drew1) | exact HB.out)⟩
      ·replace c12 := Bool.eq_false_iff.mpr c12
       subst c12
       have H1 : ((spec_l2Whole.f kj7 a0).bind fun bt267 => ((spec_l2Whole.f kj7 a1).bind fun bt271 => ((spec_l2Order.f kj7 bt267.1 bt267.2 bt271.1 bt271.2).bind fun t275 => (some t275)))) = some r := by rw [if_neg (show ¬ (false = true) by decide)] at H; exact H
       clear H
       have H := H1
       clear H1
       replace H := Option.bind_eq_some_iff.mp H
       obtain ⟨⟨t267, t268⟩, A170, H⟩ := H
       replace H : ((spec_l2Whole.f kj7 a1).bind fun bt271 => ((spec_l2Order.f kj7 t267 t268 bt271.1 bt271.2).bind fun t275 => (some t275))) = some r := H
       have A17 := Aside0.mk A170
       clear A170
       replace H := Option.bind_eq_some_iff.mp H
       obtain ⟨⟨t271, t272⟩, A180, H⟩ := H
       replace H : ((spec_l2Order.f kj7 t267 t268 t271 t272).bind fun t275 => (some t275)) = some r := H
       have A18 := Aside0.mk A180
       clear A180
       replace H := Option.bind_eq_some_iff.mp H
       obtain ⟨t275, A190, H⟩ := H
       replace H : (some t275) = some r := H
       have A19 := Aside0.mk A190
       clear A190
       obtain rfl := Option.some.inj H
       go_wp2_with (first | ((with_reducible refine gate_callee (f := 15) rfl ?_); refine goesL_ (some 27) rfl rfl Try.func15 (by kernel_rfl) rfl #[.int .u64 a0] rfl (by (try simp only [List.map_toArray, List.map_cons, List.map_nil]); first | done | rfl | (simp only [List.length_drop, List.length_take]; rfl)) ?_; (with_reducible refine (spec_l2Whole.calls kj7 a0 t267 t268 _ A17.out).mono ?_); rintro e w20 ⟨v269, rfl, ho0, hb⟩; refine ⟨_, rfl, ?_⟩; have n0_ := Aside0.mk (Kd.R_lower ho0 (below_size (by repeat (first | (with_reducible first | exact HB.out | apply below_alloc | apply pw_below_drewN | apply below_drew1) | exact HB.out)))); have n1_ := Aside0.mk (below_step (by repeat (first | (with_reducible first | exact HB.out | apply below_alloc | apply pw_below_drewN | apply below_drew1) | exact HB.out)) hb); clear HB; have HO270 := n0_; have HB := n1_; clear n0_ n1_; (try clear hb); (try clear hb2); (try clear hk); (try clear hi); (try clear ho0)) | ((with_reducible refine gate_callee (f := 15) rfl ?_); refine goesL_ (some 29) rfl rfl Try.func15 (by kernel_rfl) rfl #[.int .u64 a1] rfl (by (try simp only [List.map_toArray, List.map_cons, List.map_nil]); first | done | rfl | (simp only [List.length_drop, List.length_take]; rfl)) ?_; (with_reducible refine (spec_l2Whole.calls kj7 a1 t271 t272 _ A18.out).mono ?_); rintro e w21 ⟨v273, rfl, ho0, hb⟩; refine ⟨_, rfl, ?_⟩; have n0_ := Aside0.mk (Kd.R_elder' (by (with_reducible repeat (first | apply Kd.R_alloc | apply Kd.R_drewN | apply Kd.R_drew)); exact HO270.out) (Kd.R_base ho0) hb); have n1_ := Aside0.mk (Kd.R_lower (Kd.R_new' ho0 (Kd.R_lt (by (with_reducible repeat (first | apply Kd.R_alloc | apply Kd.R_drewN | apply Kd.R_drew)); exact HO270.out))) (below_size (by repeat (first | (with_reducible first | exact HB.out | apply below_alloc | apply pw_below_drewN | apply below_drew1) | exact HB.out)))); have n2_ := Aside0.mk (below_step (by repeat (first | (with_reducible first | exact HB.out | apply below_alloc | apply pw_below_drewN | apply below_drew1) | exact HB.out)) hb); clear HO270; clear HB; have HO270 := n0_; have HO274 := n1_; have HB := n2_; clear n0_ n1_ n2_; (try clear hb); (try clear hb2); (try clear hk); (try clear hi); (try clear ho0); obtain ⟨Ao22, co22, eo22⟩ := Kd.R_slice HO270.out; subst eo22; obtain ⟨Ao23, co23, eo23⟩ := Kd.R_slice HO274.out; subst eo23) | ((with_reducible refine gate_callee (f := 14) rfl ?_); refine goesL_ (some 30) rfl rfl Try.func14 (by kernel_rfl) rfl #[.agg #[.bool t267, .slice Ao22 t268.length co22], .agg #[.bool t271, .slice Ao23 t272.length co23]] rfl (by (try simp only [List.map_toArray, List.map_cons, List.map_nil]); first | done | rfl | (simp only [List.length_drop, List.length_take]; rfl)) ?_; (with_reducible refine (spec_l2Order.calls kj7 t267 _ _ t268 t271 _ _ t272 t275 _ ?side1 ?side2 ?side3 ?side4 A19.out).mono ?_); (case side1 => repeat (first | exact (Kd.R_reads' HO270.out).2.2 | (with_reducible refine Kd.C_alloc ?_ _) | (with_reducible refine Kd.C_drewN ?_ _) | (with_reducible refine Kd.C_drew ?_))); (case side2 => exact (Kd.R_reads' HO270.out).2.1); (case side3 => repeat (first | exact (Kd.R_reads' HO274.out).2.2 | (with_reducible refine Kd.C_alloc ?_ _) | (with_reducible refine Kd.C_drewN ?_ _) | (with_reducible refine Kd.C_drew ?_))); (case side4 => exact (Kd.R_reads' HO274.out).2.1); rintro e w24 ⟨rfl, hb⟩; refine ⟨_, rfl, ?_⟩; have n0_ := Aside0.mk (Kd.R_below (by (with_reducible repeat (first | apply Kd.R_alloc | apply Kd.R_drewN | apply Kd.R_drew)); exact HO270.out) hb); have n1_ := Aside0.mk (Kd.R_below (by (with_reducible repeat (first | apply Kd.R_alloc | apply Kd.R_drewN | apply Kd.R_drew)); exact HO274.out) hb); have n2_ := Aside0.mk (below_step (by repeat (first | (with_reducible first | exact HB.out | apply below_alloc | apply pw_below_drewN | apply below_drew1) | exact HB.out)) hb); clear HO270; clear HO274; clear HB; have HO270 := n0_; have HO274 := n1_; have HB := n2_; clear n0_ n1_ n2_; (try clear hb); (try clear hb2); (try clear hk); (try clear hi)))
       go_ret
       exact ⟨by first | rfl | (simp [errW_none, errW_some] <;> rfl) | (simp [*, errW_none, errW_some] <;> rfl), by repeat (first | (with_reducible first | exact HB.out | apply below_alloc | apply pw_below_drewN | apply below_drew1) | exact HB.out)⟩

-- GIVEN: function 7 (impl_FloatCmp)

/-! ### laws_FnExactFloatCmp: function 3 -/
def laws_FnExactFloatCmp.f (k : Nat) (a0 : Int) (a1 : Int) : Option (Bool) := (spec_FloatCmp.f k a0 a1).bind fun t276 => ((impl_FloatCmp.f a0 a1).bind fun t277 => (if t277 = t276 then (some true) else (none)))
theorem laws_FnExactFloatCmp.mono : ∀ a0 a1 k, LeO (laws_FnExactFloatCmp.f k a0 a1) (laws_FnExactFloatCmp.f (k + 1) a0 a1) := by
 intro a0 a1 k
 unfold laws_FnExactFloatCmp.f
 repeat' first
   | (with_reducible exact spec_FloatCmp.mono _ _ _)
   | (with_reducible exact LeO.refl _)
   | (with_reducible exact LeO.none _)
   | (with_reducible refine LeO.ite ?_ ?_)
   | (with_reducible refine LeO.bind ?_ (fun _ => ?_))
   | exact spec_FloatCmp.mono _ _ _
   | exact LeO.none _
   | refine LeO.ite ?_ ?_
   | refine LeO.bind ?_ (fun _ => ?_)
set_option maxHeartbeats 8000000 in
set_option maxRecDepth 100000 in
theorem laws_FnExactFloatCmp.calls (k : Nat) (a0 : Int) (a1 : Int) (r : Bool) (w : World) (h : laws_FnExactFloatCmp.f k a0 a1 = some r) :
  Calls Try.prog 3 #[.int .u64 a0, .int .u64 a1] w fun e w' => e = .returned (.bool r) ∧ Below w.heap.size w w' := by
 have HB := Aside0.mk (Below.refl w.heap.size w)
 have H : ((spec_FloatCmp.f k a0 a1).bind fun t276 => ((impl_FloatCmp.f a0 a1).bind fun t277 => (if t277 = t276 then (some true) else (none)))) = some r := h
 clear h
 replace H := Option.bind_eq_some_iff.mp H
 obtain ⟨t276, A30, H⟩ := H
 replace H : ((impl_FloatCmp.f a0 a1).bind fun t277 => (if t277 = t276 then (some true) else (none))) = some r := H
 have A3 := Aside0.mk A30
 clear A30
 replace H := Option.bind_eq_some_iff.mp H
 obtain ⟨t277, A40, H⟩ := H
 replace H : (if t277 = t276 then (some true) else (none)) = some r := H
 have A4 := Aside0.mk A40
 clear A40
 by_cases c5 : t277 = t276
 ·rw [if_pos c5] at H
  have c5b0 : (t277 == t276) = true := beq_iff_eq.mpr c5
  have c5b1 : (t277 != t276) = false := bne_eq_false_iff_eq.mpr c5
  clear c5
  obtain rfl := Option.some.inj H
  go_enter Try.func3, Try.ntmps3
  go_wp2_with (first | ((with_reducible refine gate_callee (f := 6) rfl ?_); refine goesL_ (some 9) rfl rfl Try.func6 (by kernel_rfl) rfl #[.int .u64 a0, .int .u64 a1] rfl (by (try simp only [List.map_toArray, List.map_cons, List.map_nil]); first | done | rfl | (simp only [List.length_drop, List.length_take]; rfl)) ?_; (with_reducible refine (spec_FloatCmp.calls k a0 a1 t276 _ A3.out).mono ?_); rintro e w6 ⟨rfl, hb⟩; refine ⟨_, rfl, ?_⟩; have n0_ := Aside0.mk (below_step (by repeat (first | (with_reducible first | exact HB.out | apply below_alloc | apply pw_below_drewN | apply below_drew1) | exact HB.out)) hb); clear HB; have HB := n0_; clear n0_; (try clear hb); (try clear hb2); (try clear hk); (try clear hi)) | ((with_reducible refine gate_callee (f := 7) rfl ?_); refine goesL_ (some 12) rfl rfl Try.func7 (by kernel_rfl) rfl #[.int .u64 a0, .int .u64 a1] rfl (by (try simp only [List.map_toArray, List.map_cons, List.map_nil]); first | done | rfl | (simp only [List.length_drop, List.length_take]; rfl)) ?_; (with_reducible refine (impl_FloatCmp.calls a0 a1 t277 _ A4.out).mono ?_); rintro e w7 ⟨rfl, hb⟩; refine ⟨_, rfl, ?_⟩; have n0_ := Aside0.mk (below_step (by repeat (first | (with_reducible first | exact HB.out | apply below_alloc | apply pw_below_drewN | apply below_drew1) | exact HB.out)) hb); clear HB; have HB := n0_; clear n0_; (try clear hb); (try clear hb2); (try clear hk); (try clear hi)))
  go_ret
  exact ⟨by first | rfl | (simp [errW_none, errW_some] <;> rfl) | (simp [*, errW_none, errW_some] <;> rfl), by repeat (first | (with_reducible first | exact HB.out | apply below_alloc | apply pw_below_drewN | apply below_drew1) | exact HB.out)⟩
 ·rw [if_neg c5] at H
  exact absurd H (by simp)

/-- THE ONE PURE STATEMENT of laws_FnExactFloatCmp: yours. -/
def laws_FnExactFloatCmp.Pure : Prop := ∀ (a0 : Int) (a1 : Int), (Lit.int .u64 a0).wf = true → (Lit.int .u64 a1).wf = true → ∃ k, laws_FnExactFloatCmp.f k a0 a1 = some true
theorem laws_FnExactFloatCmp.walk (P : laws_FnExactFloatCmp.Pure) (a0 : Int) (a1 : Int) (w : World) (w0 : (Lit.int .u64 a0).wf = true) (w1 : (Lit.int .u64 a1).wf = true) :
  Calls Try.prog 3 #[.int .u64 a0, .int .u64 a1] w fun e w' => e = .returned (.bool true) ∧ Below w.heap.size w w' := by
 obtain ⟨k, h⟩ := P a0 a1 w0 w1
 refine (laws_FnExactFloatCmp.calls k a0 a1 true w h).mono ?_
 rintro e w' ⟨rfl, hd⟩
 exact ⟨rfl, hd⟩

end Go.Proofs.Ytghjbadanhplnaa.PF
