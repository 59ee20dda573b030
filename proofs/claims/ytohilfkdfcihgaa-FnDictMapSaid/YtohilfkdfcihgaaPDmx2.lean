/- Go functions as Lean functions, and that each Go function comes to just that; printed by a program of this session (gprint.py over the kit's print.py). No condition. -/
import Derived.Test.YtohilfkdfcihgaaPDix0
import Derived.Test.YtohilfkdfcihgaaPDix9
import Derived.Test.YtohilfkdfcihgaaPDmx1
import Derived.Test.YtohilfkdfcihgaaGRun
namespace Go.Proofs.Ytohilfkdfcihgaa.PDi
open Go.RowKit Go.Proofs.YtohilfkdfcihgaaW.PrintWords Go.Proofs.YtohilfkdfcihgaaW.PrintLast Go.Proofs.YtohilfkdfcihgaaW.PrintMore
attribute [local go_sem] max2_int min2_int max_two min_two max_three min_three max_four min_four   -- for this text's walks alone
set_option linter.unusedVariables false
set_option linter.unusedSimpArgs false

theorem qdm2_1 {P Q0 : Prop} (y0 : Q0) (h : Q0 → P := by intro y0_; (with_reducible repeat (first | apply Kd.R_alloc | apply Kd.R_drewN | apply Kd.R_drew)); exact y0_.out) : P := h y0
theorem qdm2_2 {P : Prop} (h : P := by first | (with_reducible assumption) | assumption) : P := h
theorem qdm2_3 {P Q0 : Prop} (y0 : Q0) (h : Q0 → P := by intro y0_; repeat (first | (with_reducible first | exact y0_.out | apply below_alloc | apply pw_below_drewN | apply below_drew1) | exact y0_.out)) : P := h y0
theorem qdm2_4 {P Q0 Q1 : Prop} (y0 : Q0) (y1 : Q1) (h : Q0 → Q1 → P := by intro y0_ y1_; repeat (first | (with_reducible first | exact y0_.out | apply below_alloc | apply pw_below_drewN | apply below_drew1 | refine below_set ?_ y1_.out) | exact y0_.out)) : P := h y0 y1
theorem qdm2_5 {P Q0 : Prop} (y0 : Q0) (h : Q0 → P := by intro y0_; (with_reducible repeat (first | refine blk_drewN ?_ _ | refine blk_drew ?_ | refine blk_alloc ?_ _)); exact y0_.out) : P := h y0
theorem qdm2_6 {P : Prop} (h : P := by first | rfl | (simp; done) | (simp [*]; done)) : P := h
theorem qdm2_7 {P : Prop} (h : P := by kernel_rfl) : P := h
theorem qdm2_8 {P Q0 : Prop} (y0 : Q0) (h : Q0 → P := by intro y0_; repeat (first | (with_reducible exact y0_.out) | (with_reducible refine Kd.C_alloc ?_ _) | (with_reducible refine Kd.C_drewN ?_ _) | (with_reducible refine Kd.C_drew ?_) | exact y0_.out)) : P := h y0
theorem qdm2_9 {P : Prop} (h : P := by (try simp only [List.map_toArray, List.map_cons, List.map_nil]); first | done | rfl | (simp only [List.length_drop, List.length_take]; rfl)) : P := h
theorem qdm2_10 {P Q0 : Prop} (y0 : Q0) (h : Q0 → P := by intro y0_; repeat (first | exact y0_.out | (with_reducible refine Kd.C_alloc ?_ _) | (with_reducible refine Kd.C_drewN ?_ _) | (with_reducible refine Kd.C_drew ?_))) : P := h y0
/-! ### laws_FnDictMap: function 4 -/
mutual
def laws_FnDictMap.j0 : Nat → List (S37) → Option (Bool)
 | 0, _ => none
 | k + 1, x3 => (some (([] : List (S37)) : List (S37))).bind fun y157 => (if y157.length + x3.length < 4398046511104 then ((impl_DictRun.f (y157 ++ x3)).bind fun t163 => (if (t163.length : Int) = (x3.length : Int) then (laws_FnDictMap.l0 k x3 t163 (([] : List (S37))) 0) else (none))) else (none))
def laws_FnDictMap.l0 : Nat → List (S37) → List Int → List (S37) → Int → Option (Bool)
 | 0, _, _, _, _ => none
 | k + 1, x3, x4, x5, x6 => if x6 < (x3.length : Int) then (if 0 ≤ x6 then (laws_FnDictMap.l1 k x3 x4 x5 x6 (-1) 0 ((rd_T37 x3 x6).f0) ((rd_T37 x3 x6).f1) ((rd_T37 x3 x6).f2) ((rd_T37 x3 x6).f3)) else (none)) else (some true)
def laws_FnDictMap.l1 : Nat → List (S37) → List Int → List (S37) → Int → Int → Int → Int → Int → Int → Int → Option (Bool)
 | 0, _, _, _, _, _, _, _, _, _, _ => none
 | k + 1, x3, x4, x5, x6, x8, x9, x171000, x171001, x171002, x171003 => if x9 < (x5.length : Int) then (if 0 ≤ x9 then (if ((rd_T37 x5 x9).f1) = x171001 then (if ((rd_T37 x5 x9).f2) = x171002 then (laws_FnDictMap.l1 k x3 x4 x5 x6 x9 (wrap64 (x9 + 1)) x171000 x171001 x171002 x171003) else (laws_FnDictMap.l1 k x3 x4 x5 x6 x8 (wrap64 (x9 + 1)) x171000 x171001 x171002 x171003)) else (laws_FnDictMap.l1 k x3 x4 x5 x6 x8 (wrap64 (x9 + 1)) x171000 x171001 x171002 x171003)) else (none)) else (if x171000 = 1 then (if x8 ≥ 0 then (if 0 ≤ x8 then (if x8 < (x5.length : Int) then (if 0 ≤ x6 then (if x6 < (x4.length : Int) then (if (rd x4 x6) = 1 then (laws_FnDictMap.l0 k x3 x4 (x5.set (x8 : Int).toNat (⟨(rd_T37 x5 x8).f0, (rd_T37 x5 x8).f1, (rd_T37 x5 x8).f2, x171003⟩ : S37)) (wrap64 (x6 + 1))) else (none)) else (none)) else (none)) else (none)) else (none)) else (if x5.length < 4398046511104 then (if 0 ≤ x6 then (if x6 < (x4.length : Int) then (if (rd x4 x6) = 1 then (laws_FnDictMap.l0 k x3 x4 (x5 ++ [(⟨x171000, x171001, x171002, x171003⟩ : S37)]) (wrap64 (x6 + 1))) else (none)) else (none)) else (none)) else (none))) else (if x171000 = 2 then (if x8 ≥ 0 then (if 0 ≤ x8 then (if x8 < (x5.length : Int) then (if 0 ≤ x6 then (if x6 < (x4.length : Int) then (if (rd x4 x6) = ((rd_T37 x5 x8).f3) then (laws_FnDictMap.l0 k x3 x4 x5 (wrap64 (x6 + 1))) else (none)) else (none)) else (none)) else (none)) else (none)) else (if 0 ≤ x6 then (if x6 < (x4.length : Int) then (if (rd x4 x6) = (-1) then (laws_FnDictMap.l0 k x3 x4 x5 (wrap64 (x6 + 1))) else (none)) else (none)) else (none))) else (if x171000 = 3 then (if x8 ≥ 0 then ((some (([] : List (S37)) : List (S37))).bind fun y182 => (if 0 ≤ x8 then (if x8 ≤ (x5.length : Int) then ((some (x5.take (x8 : Int).toNat : List (S37))).bind fun y185 => (if y182.length + y185.length < 4398046511104 then ((some (y182 ++ y185 : List (S37))).bind fun y189 => (if 0 ≤ (wrap64 (x8 + 1)) then (if (wrap64 (x8 + 1)) ≤ (x5.length : Int) then ((some (x5.drop ((wrap64 (x8 + 1)) : Int).toNat : List (S37))).bind fun y192 => (if y189.length + y192.length < 4398046511104 then (if 0 ≤ x6 then (if x6 < (x4.length : Int) then (if (rd x4 x6) = 1 then (laws_FnDictMap.l0 k x3 x4 (y189 ++ y192) (wrap64 (x6 + 1))) else (none)) else (none)) else (none)) else (none))) else (none)) else (none))) else (none))) else (none)) else (none))) else (if 0 ≤ x6 then (if x6 < (x4.length : Int) then (if (rd x4 x6) = 0 then (laws_FnDictMap.l0 k x3 x4 x5 (wrap64 (x6 + 1))) else (none)) else (none)) else (none))) else (if x171000 = 4 then (if 0 ≤ x6 then (if x6 < (x4.length : Int) then (if (rd x4 x6) < 1 then (none) else (laws_FnDictMap.l0 k x3 x4 x5 (wrap64 (x6 + 1)))) else (none)) else (none)) else (if x171000 = 5 then (if 0 ≤ x6 then (if x6 < (x4.length : Int) then (if (rd x4 x6) < 8 then (none) else (laws_FnDictMap.l0 k x3 x4 x5 (wrap64 (x6 + 1)))) else (none)) else (none)) else (if 0 ≤ x6 then (if x6 < (x4.length : Int) then (if (rd x4 x6) = (-2) then (laws_FnDictMap.l0 k x3 x4 x5 (wrap64 (x6 + 1))) else (none)) else (none)) else (none)))))))
end
def laws_FnDictMap.f (k : Nat) (l0 : List Int) : Option (Bool) := (laws_big.f l0).bind fun t150 => (if t150 = true then (some true) else ((spec_DrawDictRun.f k l0).bind fun t151 => (if (t151.length : Int) > 3000 then (if 3000 ≤ (t151.length : Int) then (laws_FnDictMap.j0 k (t151.take (3000 : Int).toNat)) else (none)) else (laws_FnDictMap.j0 k t151))))
theorem laws_FnDictMap.mono_l : ∀ k, (∀ y0, LeO (laws_FnDictMap.j0 k y0) (laws_FnDictMap.j0 (k + 1) y0)) ∧ (∀ y0 y1 y2 y3, LeO (laws_FnDictMap.l0 k y0 y1 y2 y3) (laws_FnDictMap.l0 (k + 1) y0 y1 y2 y3)) ∧ (∀ y0 y1 y2 y3 y4 y5 y6 y7 y8 y9, LeO (laws_FnDictMap.l1 k y0 y1 y2 y3 y4 y5 y6 y7 y8 y9) (laws_FnDictMap.l1 (k + 1) y0 y1 y2 y3 y4 y5 y6 y7 y8 y9))
 | 0 => ⟨fun _ r h => by simp [laws_FnDictMap.j0] at h, fun _ _ _ _ r h => by simp [laws_FnDictMap.l0] at h, fun _ _ _ _ _ _ _ _ _ _ r h => by simp [laws_FnDictMap.l1] at h⟩
 | k + 1 => by
  obtain ⟨ih0, ih1, ih2⟩ := laws_FnDictMap.mono_l k
  refine ⟨?_, ?_, ?_⟩
  ·intro y0
   unfold laws_FnDictMap.j0
   repeat' first
   | (with_reducible exact ih0 _)
   | (with_reducible exact ih1 _ _ _ _)
   | (with_reducible exact ih2 _ _ _ _ _ _ _ _ _ _)
   | (with_reducible exact spec_DrawDictRun.mono _ _)
   | (with_reducible exact LeO.refl _)
   | (with_reducible exact LeO.none _)
   | (with_reducible refine LeO.ite ?_ ?_)
   | (with_reducible refine LeO.bind ?_ (fun _ => ?_))
   | exact ih0 _
   | exact ih1 _ _ _ _
   | exact ih2 _ _ _ _ _ _ _ _ _ _
   | exact spec_DrawDictRun.mono _ _
   | exact LeO.none _
   | refine LeO.ite ?_ ?_
   | refine LeO.bind ?_ (fun _ => ?_)
  ·intro y0 y1 y2 y3
   unfold laws_FnDictMap.l0
   repeat' first
   | (with_reducible exact ih0 _)
   | (with_reducible exact ih1 _ _ _ _)
   | (with_reducible exact ih2 _ _ _ _ _ _ _ _ _ _)
   | (with_reducible exact spec_DrawDictRun.mono _ _)
   | (with_reducible exact LeO.refl _)
   | (with_reducible exact LeO.none _)
   | (with_reducible refine LeO.ite ?_ ?_)
   | (with_reducible refine LeO.bind ?_ (fun _ => ?_))
   | exact ih0 _
   | exact ih1 _ _ _ _
   | exact ih2 _ _ _ _ _ _ _ _ _ _
   | exact spec_DrawDictRun.mono _ _
   | exact LeO.none _
   | refine LeO.ite ?_ ?_
   | refine LeO.bind ?_ (fun _ => ?_)
  ·intro y0 y1 y2 y3 y4 y5 y6 y7 y8 y9
   unfold laws_FnDictMap.l1
   repeat' first
   | (with_reducible exact ih0 _)
   | (with_reducible exact ih1 _ _ _ _)
   | (with_reducible exact ih2 _ _ _ _ _ _ _ _ _ _)
   | (with_reducible exact spec_DrawDictRun.mono _ _)
   | (with_reducible exact LeO.refl _)
   | (with_reducible exact LeO.none _)
   | (with_reducible refine LeO.ite ?_ ?_)
   | (with_reducible refine LeO.bind ?_ (fun _ => ?_))
   | exact ih0 _
   | exact ih1 _ _ _ _
   | exact ih2 _ _ _ _ _ _ _ _ _ _
   | exact spec_DrawDictRun.mono _ _
   | exact LeO.none _
   | refine LeO.ite ?_ ?_
   | refine LeO.bind ?_ (fun _ => ?_)
theorem laws_FnDictMap.mono : ∀ a0 k, LeO (laws_FnDictMap.f k a0) (laws_FnDictMap.f (k + 1) a0) := by
 intro a0 k
 obtain ⟨ih0, ih1, ih2⟩ := laws_FnDictMap.mono_l k
 unfold laws_FnDictMap.f
 repeat' first
   | (with_reducible exact ih0 _)
   | (with_reducible exact ih1 _ _ _ _)
   | (with_reducible exact ih2 _ _ _ _ _ _ _ _ _ _)
   | (with_reducible exact spec_DrawDictRun.mono _ _)
   | (with_reducible exact LeO.refl _)
   | (with_reducible exact LeO.none _)
   | (with_reducible refine LeO.ite ?_ ?_)
   | (with_reducible refine LeO.bind ?_ (fun _ => ?_))
   | exact ih0 _
   | exact ih1 _ _ _ _
   | exact ih2 _ _ _ _ _ _ _ _ _ _
   | exact spec_DrawDictRun.mono _ _
   | exact LeO.none _
   | refine LeO.ite ?_ ?_
   | refine LeO.bind ?_ (fun _ => ?_)
def laws_FnDictMap.T18 : Bool × List (List Nat × List Nat) := (true, [([], []), ([], []), ([0, 1], [0, 1]), ([2], [2]), ([3], [3]), ([], []), ([5], [5]), ([4, 6], [4, 6]), ([7], [7]), ([8], [8]), ([8], [8]), ([9, 10, 8], [8, 9, 10]), ([11, 8], [8, 11]), ([12, 8], [8, 12]), ([8], [8]), ([14, 8], [8, 14]), ([13, 15, 8], [8, 13, 15]), ([8, 16], [8, 16])])
def laws_FnDictMap.B18 : List Nat := [0, 0, 3, 7, 15, 0, 32, 127, 255, 511, 511, 2047, 4095, 8191, 511, 16895, 65535, 131071]
theorem laws_FnDictMap.tab18 : rtab .any (opsOf Try.f4 18) = laws_FnDictMap.T18 := by kernel_rfl
theorem laws_FnDictMap.bits18 : waitsOk laws_FnDictMap.T18.2 laws_FnDictMap.B18 = true := by kernel_rfl
def laws_FnDictMap.T35 : Bool × List (List Nat × List Nat) := (true, [([], []), ([], []), ([], []), ([1, 2], [1, 2]), ([0, 3], [0, 3]), ([], []), ([], []), ([6], [6]), ([5, 7], [5, 7]), ([4, 8, 4], [4, 8]), ([9, 9, 0, 1, 2, 3, 4, 5, 6, 7, 8, 9], [1, 5, 9])])
def laws_FnDictMap.B35 : List Nat := [0, 0, 0, 6, 15, 0, 0, 64, 224, 511, 1023]
theorem laws_FnDictMap.tab35 : rtab .any (opsOf Try.f4 35) = laws_FnDictMap.T35 := by kernel_rfl
theorem laws_FnDictMap.bits35 : waitsOk laws_FnDictMap.T35.2 laws_FnDictMap.B35 = true := by kernel_rfl
set_option maxHeartbeats 8000000 in
set_option maxRecDepth 100000 in
theorem laws_FnDictMap.calls (k : Nat) (A0 : Option Addr) (c0 : Nat) (l0 : List Int) (r : Bool) (w : World) (hr0 : Kd.C (Kd.int .u8) w A0 l0.length l0) (hc0 : l0.length ≤ c0) (h : laws_FnDictMap.f k l0 = some r) :
  Calls Try.prog 4 #[.slice A0 l0.length c0] w fun e w' => e = .returned (.bool r) ∧ Below w.heap.size w w' := by
 have hu37 := Try.underlying37
 have HR0 := Aside0.mk hr0
 have HC0 := Aside0.mk hc0
 clear hr0 hc0
 have HB := Aside0.mk (Below.refl w.heap.size w)
 have H : ((laws_big.f l0).bind fun t150 => (if t150 = true then (some true) else ((spec_DrawDictRun.f k l0).bind fun t151 => (if (t151.length : Int) > 3000 then (if 3000 ≤ (t151.length : Int) then (laws_FnDictMap.j0 k (t151.take (3000 : Int).toNat)) else (none)) else (laws_FnDictMap.j0 k t151))))) = some r := h
 clear h
 replace H := Option.bind_eq_some_iff.mp H
 obtain ⟨t150, A20, H⟩ := H
 replace H : (if t150 = true then (some true) else ((spec_DrawDictRun.f k l0).bind fun t151 => (if (t151.length : Int) > 3000 then (if 3000 ≤ (t151.length : Int) then (laws_FnDictMap.j0 k (t151.take (3000 : Int).toNat)) else (none)) else (laws_FnDictMap.j0 k t151)))) = some r := H
 have A2 := Aside0.mk A20
 clear A20
 by_cases c3 : t150 = true
 ·subst c3
  have H1 : (some true) = some r := by rw [if_pos rfl] at H; exact H
  clear H
  have H := H1
  clear H1
  obtain rfl := Option.some.inj H
  go_enter Try.func4, Try.ntmps4
  go_wp2_with (first | ((with_reducible refine gate_callee (f := 16) rfl ?_); refine goesL_ (some 12) rfl rfl Try.func16 qdm2_7 rfl #[.slice A0 l0.length c0] rfl qdm2_9 ?_; (with_reducible refine (laws_big.calls _ _ l0 true _ ?side1 ?side2 A2.out).mono ?_); (case side1 => exact (qdm2_10 HR0)); (case side2 => exact HC0.out); rintro e w' ⟨rfl, ⟨nd, rfl⟩⟩; refine ⟨_, rfl, ?_⟩))
  go_ret
  exact ⟨by first | rfl | (simp [errW_none, errW_some] <;> rfl) | (simp [*, errW_none, errW_some] <;> rfl), by repeat (first | (with_reducible first | exact HB.out | apply below_alloc | apply pw_below_drewN | apply below_drew1) | exact HB.out)⟩
 ·replace c3 := Bool.eq_false_iff.mpr c3
  subst c3
  have H1 : ((spec_DrawDictRun.f k l0).bind fun t151 => (if (t151.length : Int) > 3000 then (if 3000 ≤ (t151.length : Int) then (laws_FnDictMap.j0 k (t151.take (3000 : Int).toNat)) else (none)) else (laws_FnDictMap.j0 k t151))) = some r := by rw [if_neg (show ¬ (false = true) by decide)] at H; exact H
  clear H
  have H := H1
  clear H1
  replace H := Option.bind_eq_some_iff.mp H
  obtain ⟨t151, A40, H⟩ := H
  replace H : (if (t151.length : Int) > 3000 then (if 3000 ≤ (t151.length : Int) then (laws_FnDictMap.j0 k (t151.take (3000 : Int).toNat)) else (none)) else (laws_FnDictMap.j0 k t151)) = some r := H
  have A4 := Aside0.mk A40
  clear A40
  have HC5 := Aside0.mk H
  clear H
  go_enter Try.func4, Try.ntmps4
  go_upto_if 17 with (first | ((with_reducible refine gate_callee (f := 16) rfl ?_); refine goesL_ (some 12) rfl rfl Try.func16 qdm2_7 rfl #[.slice A0 l0.length c0] rfl qdm2_9 ?_; (with_reducible refine (laws_big.calls _ _ l0 false _ ?side1 ?side2 A2.out).mono ?_); (case side1 => exact (qdm2_10 HR0)); (case side2 => exact HC0.out); rintro e w' ⟨rfl, ⟨nd, rfl⟩⟩; refine ⟨_, rfl, ?_⟩) | ((with_reducible refine gate_callee (f := 17) rfl ?_); refine goesL_ (some 14) rfl rfl Try.func17 qdm2_7 rfl #[.slice A0 l0.length c0] rfl qdm2_9 ?_; (with_reducible refine (spec_DrawDictRun.calls k _ _ l0 t151 _ ?side1 ?side2 A4.out).mono ?_); (case side1 => exact (qdm2_10 HR0)); (case side2 => exact HC0.out); rintro e w6 ⟨v152, rfl, ho0, hb⟩; refine ⟨_, rfl, ?_⟩; have n0_ := Aside0.mk (Kd.R_lower ho0 (below_size (qdm2_3 HB))); have n1_ := Aside0.mk (below_step (qdm2_3 HB) hb); clear HB; have HO153 := n0_; have HB := n1_; clear n0_ n1_; (try clear hb); (try clear hb2); (try clear hk); (try clear hi); (try clear ho0); obtain ⟨Ao7, co7, eo7⟩ := Kd.R_slice HO153.out; subst eo7))
  (try simp only [Act.put, List.setIfInBounds_toArray, List.set_cons_zero, List.set_cons_succ])
  go_cut [3] (fun v3 wc => ∃ (kq : Nat) (x3_4 : List (S37)), Aside0 (laws_FnDictMap.j0 kq x3_4 = some r) ∧ Aside0 (kq ≤ k) ∧ Aside0 (Kd.R k37 37 wc w.heap.size (fun _ => True) v3 x3_4) ∧ Aside0 (Below w.heap.size w wc))
  case first =>
   have H := HC5.out
   clear HC5
   by_cases c8 : (t151.length : Int) > 3000
   ·rw [if_pos c8] at H
    have c8b0 : decide (3000 < (t151.length : Int)) = true := decide_eq_true c8
    have c8b1 : decide (3000 < t151.length) = true := decide_eq_true (by omega)
    clear c8
    (first | rw [c8b0] | (simp only [i64_w, i32_w]; rw [c8b0]) | skip)
    by_cases c9 : 3000 ≤ (t151.length : Int)
    ·rw [if_pos c9] at H
     have c9b0 := eq_true c9
     have c9b1 : decide (3000 ≤ (t151.length : Int)) = true := decide_eq_true c9
     clear c9
     obtain ⟨y154, hy154⟩ : ∃ y_ : List (S37), y_ = (t151.take (3000 : Int).toNat) := ⟨_, rfl⟩
     replace H : (laws_FnDictMap.j0 k y154) = some r := by first | (rw [hy154]; with_reducible exact H) | (have H2_ := (Option.bind_some _ _).symm.trans H; rw [hy154]; with_reducible exact H2_) | (have H2_ := (Option.bind_some _ _).symm.trans H; with_reducible exact H2_) | with_reducible exact H | (rw [hy154]; exact H) | exact H
     have Ny154 := Aside0.mk hy154
     clear hy154
     have H' := Aside0.mk H
     clear H
     have q10 : (3000 : Int) ≤ ((t151.length : Int) : Int) := of_decide_eq_true qdm2_2
     obtain ⟨i010, hi010, _, hsz10, _⟩ := info_parts info37
     have hcut10 := cut_to (P := Try.prog) 32 37 .i64 Try.underlying32 hi010 Ao7 t151.length co7 3000 (by omega) q10 (Kd.R_reads' HO153.out).2.1
     have hr10 := Kd.R_take (m := (3000 : Int).toNat) HO153.out (by omega)
     have hy10 : y154.length = (3000 : Int).toNat := (by rw [Ny154.out, List.length_take]; omega)
     rw [← Ny154.out] at hr10
     rw [← hy10] at hr10 hcut10
     clear hy10 hi010 hsz10 HO153
     have HO156 := Aside0.mk hr10
     clear hr10
     replace q10 := eq_true q10
     go_wp2
     go_meet
     case rel => exact ⟨_, (y154), H', ⟨by first | omega | exact Nat.le_refl _⟩, ⟨by (with_reducible repeat (first | apply Kd.R_alloc | apply Kd.R_drewN | apply Kd.R_drew)); exact HO156.out⟩, ⟨by repeat (first | (with_reducible first | exact HB.out | apply below_alloc | apply pw_below_drewN | apply below_drew1) | exact HB.out)⟩⟩
    ·rw [if_neg c9] at H
     exact absurd H (by simp)
   ·rw [if_neg c8] at H
    have c8b0 : decide (3000 < (t151.length : Int)) = false := decide_eq_false c8
    have c8b1 : decide (3000 < t151.length) = false := decide_eq_false (by omega)
    clear c8
    (first | rw [c8b0] | (simp only [i64_w, i32_w]; rw [c8b0]) | skip)
    have H' := Aside0.mk H
    clear H
    go_wp2
    go_meet
    case rel => exact ⟨_, (t151), H', ⟨by first | omega | exact Nat.le_refl _⟩, ⟨by (with_reducible repeat (first | apply Kd.R_alloc | apply Kd.R_drewN | apply Kd.R_drew)); exact HO153.out⟩, ⟨by repeat (first | (with_reducible first | exact HB.out | apply below_alloc | apply pw_below_drewN | apply below_drew1) | exact HB.out)⟩⟩
  case rest =>
   clear HC5
   try clear c1
   try clear q1
   try clear p2
   try clear c3
   try clear c4
   try clear c8
   try clear c8b0
   try clear c8b1
   try clear c9
   try clear c9b0
   try clear c9b1
   try clear q10
   try clear q10
   obtain ⟨kq, x3_4, HA, HJ4, HO_3, HB⟩ := hcut
   cases kq with
   | zero => exact absurd HA.out (by simp [laws_FnDictMap.j0])
   | succ kj4 =>
    have H := HA.out
    clear HA
    simp only [laws_FnDictMap.j0] at H
    obtain ⟨y157, hy157⟩ : ∃ y_ : List (S37), y_ = (([] : List (S37))) := ⟨_, rfl⟩
    replace H : (if y157.length + x3_4.length < 4398046511104 then ((impl_DictRun.f (y157 ++ x3_4)).bind fun t163 => (if (t163.length : Int) = (x3_4.length : Int) then (laws_FnDictMap.l0 kj4 x3_4 t163 (([] : List (S37))) 0) else (none))) else (none)) = some r := by first | (rw [hy157]; with_reducible exact H) | (have H2_ := (Option.bind_some _ _).symm.trans H; rw [hy157]; with_reducible exact H2_) | (have H2_ := (Option.bind_some _ _).symm.trans H; with_reducible exact H2_) | with_reducible exact H | (rw [hy157]; exact H) | exact H
    have Ny157 := Aside0.mk hy157
    clear hy157
    by_cases c11 : y157.length + x3_4.length < 4398046511104
    ·rw [if_pos c11] at H
     have LMc11 := Aside0.mk c11
     clear c11
     obtain ⟨y160, hy160⟩ : ∃ y_ : List (S37), y_ = (y157 ++ x3_4) := ⟨_, rfl⟩
     replace H : ((impl_DictRun.f y160).bind fun t163 => (if (t163.length : Int) = (x3_4.length : Int) then (laws_FnDictMap.l0 kj4 x3_4 t163 (([] : List (S37))) 0) else (none))) = some r := by first | (rw [hy160]; with_reducible exact H) | (have H2_ := (Option.bind_some _ _).symm.trans H; rw [hy160]; with_reducible exact H2_) | (have H2_ := (Option.bind_some _ _).symm.trans H; with_reducible exact H2_) | with_reducible exact H | (rw [hy160]; exact H) | exact H
     have Ny160 := Aside0.mk hy160
     clear hy160
     replace H := Option.bind_eq_some_iff.mp H
     obtain ⟨t163, A120, H⟩ := H
     replace H : (if (t163.length : Int) = (x3_4.length : Int) then (laws_FnDictMap.l0 kj4 x3_4 t163 (([] : List (S37))) 0) else (none)) = some r := H
     have A12 := Aside0.mk A120
     clear A120
     by_cases c13 : (t163.length : Int) = (x3_4.length : Int)
     ·rw [if_pos c13] at H
      have c13b0 : ((t163.length : Int) == (x3_4.length : Int)) = true := beq_iff_eq.mpr c13
      have c13b1 : ((t163.length : Int) != (x3_4.length : Int)) = false := bne_eq_false_iff_eq.mpr c13
      have c13b2 : (t163.length == x3_4.length) = true := by first | simpa using c13 | (simp at c13 ⊢; omega)
      clear c13
      obtain ⟨y166, hy166⟩ : ∃ y_ : List (S37), y_ = (([] : List (S37))) := ⟨_, rfl⟩
      replace H : (laws_FnDictMap.l0 kj4 x3_4 t163 y166 0) = some r := by first | (rw [hy166]; with_reducible exact H) | (have H2_ := (Option.bind_some _ _).symm.trans H; rw [hy166]; with_reducible exact H2_) | (have H2_ := (Option.bind_some _ _).symm.trans H; with_reducible exact H2_) | with_reducible exact H | (rw [hy166]; exact H) | exact H
      have Ny166 := Aside0.mk hy166
      clear hy166
      have H' := Aside0.mk H
      clear H
      go_wp2_with (first | ((with_reducible refine gate_dst (N := 20) rfl ?_); refine Kd.R_lit k37 _ 37 ?hg (N := 20) ?hd (xs := ([] : List (S37))) (inner := []) (ok := fun _ => True) (okp := fun _ => True) ?hr ?hp (fun _ hk => hk) trivial (Below.refl _ _) (Nat.le_refl _) (by simp) ?_; (case hd => rfl); (case hg => rfl); (case hr => exact (by first | (go_simp; done) | (go_simp; rfl))); (case hp => exact (Reps.none _ _)); intro v158 w14 ho15 hb hg_ hnew_; clear hg_ hnew_; (first | rw [← Ny157.out] at ho15 | (simp only [Int.reduceToNat] at ho15; rw [← Ny157.out] at ho15)); have n0_ := Aside0.mk (Kd.R_elder' (qdm2_1 HO_3) (Kd.R_base ho15) hb); have n1_ := Aside0.mk (Kd.R_lower (Kd.R_new' ho15 (Kd.R_lt (qdm2_1 HO_3))) (below_size (qdm2_3 HB))); have n2_ := Aside0.mk (below_step (qdm2_3 HB) hb); clear HO_3; clear HB; have HO_3 := n0_; have HO159 := n1_; have HB := n2_; clear n0_ n1_ n2_; clear hb ho15; obtain ⟨Ao17, co17, eo17⟩ := Kd.R_slice HO_3.out; subst eo17) | ((with_reducible refine gate_builtin (b := .append) (xs := #[.tmp 20, .tmp 21]) rfl ?_); at_builtin; refine Kd.R_append_rows k37 (w0 := w) w.heap.size rfl (.tmp 20) (.tmp 21) 32 37 (.agg #[(.int .i64 0), (.int .u64 0), (.int .i64 0), (.int .i64 0)]) 32 rfl Try.underlying32 info37 rfl (by decide) (by omega) v158 y157 x3_4 _ _ _ (fun k_ => some k_ ≠ (.slice Ao17 x3_4.length co17 : Value).ownBlock) (fun _ => False) rfl rfl ?aO ?aR (fun _ _ h => h) (fun _ h => h.elim) ?aF ?aB ?aS ?aL ?_; (case aR => repeat (first | exact (Kd.R_reads' HO_3.out).2.2 | (with_reducible refine Kd.C_alloc ?_ _) | (with_reducible refine Kd.C_drewN ?_ _) | (with_reducible refine Kd.C_drew ?_))); (case aB => exact (qdm2_3 HB)); (case aF => exact (fun k_ hk => Kd.fresh' (Kd.R_lt (qdm2_1 HO_3)) k_ hk)); (case aO => exact (by (with_reducible repeat (first | apply Kd.R_alloc | apply Kd.R_drewN | apply Kd.R_drew)); exact Kd.R_mono HO159.out (fun _ hk => hk.2))); (case aS => exact (below_size (qdm2_3 HB))); (case aL => have := LMc11.out; omega); intro v161 w16 ho hb hg hat; rw [← Ny160.out] at ho; have n0_ := Aside0.mk (Kd.R_after (ok := (fun _ => True)) (qdm2_1 HO_3) hg hat); have n1_ := Aside0.mk (hb); have n2_ := Aside0.mk (ho); clear HO_3; clear HB; clear HO159; have HO_3 := n0_; have HB := n1_; have HO162 := n2_; clear n0_ n1_ n2_; clear ho hb hg hat; obtain ⟨Ao18, co18, eo18⟩ := Kd.R_slice HO162.out; subst eo18) | ((with_reducible refine gate_callee (f := 18) rfl ?_); refine goesL_ (some 23) rfl rfl Try.func18 qdm2_7 rfl #[.slice Ao18 y160.length co18] rfl qdm2_9 ?_; (with_reducible refine (impl_DictRun.calls _ _ y160 t163 _ ?side1 ?side2 A12.out).mono ?_); (case side1 => exact (by repeat (first | exact (Kd.R_reads' HO162.out).2.2 | (with_reducible refine Kd.C_alloc ?_ _) | (with_reducible refine Kd.C_drewN ?_ _) | (with_reducible refine Kd.C_drew ?_)))); (case side2 => exact (Kd.R_reads' HO162.out).2.1); rintro e w19 ⟨v164, rfl, ho0, hb⟩; refine ⟨_, rfl, ?_⟩; have n0_ := Aside0.mk (Kd.R_below (qdm2_1 HO_3) hb); have n1_ := Aside0.mk (Kd.R_below (qdm2_1 HO162) hb); have n2_ := Aside0.mk (Kd.R_lower ho0 (below_size (qdm2_3 HB))); have n3_ := Aside0.mk (below_step (qdm2_3 HB) hb); clear HO_3; clear HO162; clear HB; have HO_3 := n0_; have HO162 := n1_; have HO165 := n2_; have HB := n3_; clear n0_ n1_ n2_ n3_; (try clear hb); (try clear hb2); (try clear hk); (try clear hi); (try clear ho0); obtain ⟨Ao20, co20, eo20⟩ := Kd.R_slice HO165.out; subst eo20) | ((with_reducible refine gate_dst (N := 29) rfl ?_); refine Kd.R_lit k37 _ 37 ?hg (N := 29) ?hd (xs := ([] : List (S37))) (inner := []) (ok := fun _ => True) (okp := fun _ => True) ?hr ?hp (fun _ hk => hk) trivial (Below.refl _ _) (Nat.le_refl _) (by simp) ?_; (case hd => rfl); (case hg => rfl); (case hr => exact (by first | (go_simp; done) | (go_simp; rfl))); (case hp => exact (Reps.none _ _)); intro v167 w21 ho22 hb hg_ hnew_; clear hg_ hnew_; (first | rw [← Ny166.out] at ho22 | (simp only [Int.reduceToNat] at ho22; rw [← Ny166.out] at ho22)); have n0_ := Aside0.mk (Kd.R_elder' (qdm2_1 HO_3) (Kd.R_base ho22) hb); have n1_ := Aside0.mk (Kd.R_elder' (qdm2_1 HO162) (Kd.R_base ho22) hb); have n2_ := Aside0.mk (Kd.R_below (qdm2_1 HO165) hb); have n3_ := Aside0.mk (Kd.R_lower (Kd.R_new' (Kd.R_new' ho22 (Kd.R_lt (qdm2_1 HO_3))) (Kd.R_lt (qdm2_1 HO162))) (below_size (qdm2_3 HB))); have n4_ := Aside0.mk (below_step (qdm2_3 HB) hb); clear HO_3; clear HO162; clear HO165; clear HB; have HO_3 := n0_; have HO162 := n1_; have HO165 := n2_; have HO168 := n3_; have HB := n4_; clear n0_ n1_ n2_ n3_ n4_; clear hb ho22))
      go_loopg [5, 6] kj4 (fun kq v5 v6 w' => ∃ (x3_2 : List (S37)) (x5_2 : List (S37)) (x6_2 : Int), v6 = .int .i64 x6_2 ∧ Aside0 (laws_FnDictMap.l0 kq x3_2 t163 x5_2 x6_2 = some r) ∧ Aside0 (kq ≤ kj4) ∧ Aside0 (Kd.R k37 37 w' w.heap.size (fun k_ => some k_ ≠ (v5 : Value).ownBlock) (.slice Ao17 x3_4.length co17) x3_2) ∧ Aside0 (Kd.R (Kd.int .i64) 2 w' w.heap.size (fun _ => True) (.slice Ao20 t163.length co20) t163) ∧ Aside0 (Kd.R k37 37 w' w.heap.size (fun k_ => some k_ ≠ ((.slice Ao17 x3_4.length co17) : Value).ownBlock) v5 x5_2) ∧ Aside0 (Below w.heap.size w w'))
      case atStart => exact ⟨(x3_4), (y166), (0), qdm2_6, H', ⟨Nat.le_refl _⟩, ⟨by (with_reducible repeat (first | apply Kd.R_alloc | apply Kd.R_drewN | apply Kd.R_drew)); exact Kd.R_mono HO_3.out (fun _ hk => hk.2)⟩, ⟨by (with_reducible repeat (first | apply Kd.R_alloc | apply Kd.R_drewN | apply Kd.R_drew)); exact HO165.out⟩, ⟨by (with_reducible repeat (first | apply Kd.R_alloc | apply Kd.R_drewN | apply Kd.R_drew)); exact Kd.R_mono HO168.out (fun _ hk => hk.1.2)⟩, ⟨by repeat (first | (with_reducible first | exact HB.out | apply below_alloc | apply pw_below_drewN | apply below_drew1) | exact HB.out)⟩⟩
      case round =>
       clear H'
       try clear c1
       try clear q1
       try clear p2
       try clear c3
       try clear c4
       try clear c8
       try clear c8b0
       try clear c8b1
       try clear c9
       try clear c9b0
       try clear c9b1
       try clear q10
       try clear c11
       try clear c13
       try clear c13b0
       try clear c13b1
       try clear c13b2
       try clear c16
       try clear c17
       try clear c18
       try clear p2
       try clear q1
       try clear q10
       obtain ⟨x3_2, x5_2, x6_2, rfl, HA, HK2, HO_3, HO_4, HO_5, HB⟩ := hrel
       have hl3_2 := (Kd.R_reads' HO_3.out).1
       rw [hl3_2] at HO_3
       (try simp only [hl3_2])
       (try simp only [hl3_2] at HO_4)
       (try simp only [hl3_2] at HO_5)
       cases gk with
       | zero => exact absurd HA.out (by simp [laws_FnDictMap.l0])
       | succ k2 =>
        have H := HA.out
        clear HA
        simp only [laws_FnDictMap.l0] at H
        by_cases c23 : x6_2 < (x3_2.length : Int)
        ·rw [if_pos c23] at H
         have c23b0 : decide (x6_2 < (x3_2.length : Int)) = true := decide_eq_true c23
         (try simp only [hl3_2] at c23b0)
         clear c23
         by_cases c24 : 0 ≤ x6_2
         ·rw [if_pos c24] at H
          have c24b0 : decide (0 ≤ x6_2) = true := decide_eq_true c24
          clear c24
          have H' := Aside0.mk H
          clear H
          have p169 : 0 ≤ (x6_2 : Int) := of_decide_eq_true qdm2_2
          have q169 : x6_2 < (x3_2.length : Int) := of_decide_eq_true qdm2_2
          obtain ⟨ad169, e169, hx169_0, hx169_1, hx169_2, hx169_3⟩ := at_T37 (Kd.R_reads' HO_3.out).2.2 x6_2 p169 q169
          cases e169
          replace p169 := eq_true p169
          replace q169 := eq_true q169
          go_wp2_with (first | ((with_reducible refine gate_dst (N := 7) rfl ?_); refine box_event ?hg (N := 7) ?hd (cs := #[.int .i64 0, .int .u64 0, .int .i64 0, .int .i64 0]) (t := 37) ?hr ?_; (case hd => rfl); (case hg => rfl); (case hr => exact (by first | (go_simp; done) | (go_simp; rfl))); intro gb170 hg w25 hbox hb; have n0_ := Aside0.mk (Kd.R_below (Kd.R_elderB (qdm2_1 HO_3) gb170 (Nat.le_of_eq hg.symm)) hb); have n1_ := Aside0.mk (Kd.R_below (qdm2_1 HO_4) hb); have n2_ := Aside0.mk (Kd.R_below (Kd.R_elderB (qdm2_1 HO_5) gb170 (Nat.le_of_eq hg.symm)) hb); have n3_ := Aside0.mk (below_step (qdm2_3 HB) hb); have n4_ := Aside0.mk (hbox); have n5_ := Aside0.mk ((by rw [hg]; exact (below_size (qdm2_3 HB)) : w.heap.size ≤ gb170)); have n6_ := Aside0.mk ((by rw [hg]; exact (below_size (qdm2_3 HB)) : w.heap.size ≤ gb170)); clear HO_3; clear HO_4; clear HO_5; clear HB; have HO_3 := n0_; have HO_4 := n1_; have HO_5 := n2_; have HB := n3_; have BK170 := n4_; have GW170 := n5_; have GE170 := n6_; clear n0_ n1_ n2_ n3_ n4_ n5_ n6_; clear hb hbox hg; have hcz26_0 : w25.cell? ⟨gb170, 0, none⟩ = some (.int .i64 0) := (blk_cell BK170.out 0).trans rfl; have hcz26_1 : w25.cell? ⟨gb170, 1, none⟩ = some (.int .u64 0) := (blk_cell BK170.out 1).trans rfl; have hcz26_2 : w25.cell? ⟨gb170, 2, none⟩ = some (.int .i64 0) := (blk_cell BK170.out 2).trans rfl; have hcz26_3 : w25.cell? ⟨gb170, 3, none⟩ = some (.int .i64 0) := (blk_cell BK170.out 3).trans rfl; have hfz26_0 := blk_frozen BK170.out 0; have hfz26_1 := blk_frozen BK170.out 1; have hfz26_2 := blk_frozen BK170.out 2; have hfz26_3 := blk_frozen BK170.out 3))
          go_loopg [8, 9] k2 (fun kq v8 v9 w' => ∃ (x8_3 : Int) (x9_3 : Int), v8 = .int .i64 x8_3 ∧ v9 = .int .i64 x9_3 ∧ Aside0 (laws_FnDictMap.l1 kq x3_2 t163 x5_2 x6_2 x8_3 x9_3 ((rd_T37 x3_2 x6_2).f0) ((rd_T37 x3_2 x6_2).f1) ((rd_T37 x3_2 x6_2).f2) ((rd_T37 x3_2 x6_2).f3) = some r) ∧ Aside0 (kq ≤ k2) ∧ Aside0 (Kd.R k37 37 w' w.heap.size (fun k_ => some k_ ≠ (u5 : Value).ownBlock ∧ k_ ≠ gb170) (.slice (some ad169) x3_2.length co17) x3_2) ∧ Aside0 (Kd.R (Kd.int .i64) 2 w' w.heap.size (fun _ => True) (.slice Ao20 t163.length co20) t163) ∧ Aside0 (Kd.R k37 37 w' w.heap.size (fun k_ => some k_ ≠ ((.slice (some ad169) x3_2.length co17) : Value).ownBlock ∧ k_ ≠ gb170) u5 x5_2) ∧ Aside0 (w'.heap[gb170]? = some (.cells #[.int .i64 ((rd_T37 x3_2 x6_2).f0), .int .u64 ((rd_T37 x3_2 x6_2).f1), .int .i64 ((rd_T37 x3_2 x6_2).f2), .int .i64 ((rd_T37 x3_2 x6_2).f3)] 37 (0, 0))) ∧ Aside0 (Below w.heap.size w w'))
          case atStart => exact ⟨((-1)), (0), qdm2_6, qdm2_6, H', ⟨Nat.le_refl _⟩, ⟨by (try simp only [hl3_2]); (with_reducible repeat (first | apply Kd.R_alloc | apply Kd.R_drewN | apply Kd.R_drew)); exact Kd.R_mono (Kd.R_far (p := ⟨gb170, 3, none⟩) (Kd.R_far (p := ⟨gb170, 2, none⟩) (Kd.R_far (p := ⟨gb170, 1, none⟩) (Kd.R_far (p := ⟨gb170, 0, none⟩) (Kd.R_mono HO_3.out (fun k_ hk => (⟨hk, hk.2⟩ : _ ∧ k_ ≠ gb170))) (fun _ hk => hk.2) (.int .i64 ((rd_T37 x3_2 x6_2).f0))) (fun _ hk => hk.2) (.int .u64 ((rd_T37 x3_2 x6_2).f1))) (fun _ hk => hk.2) (.int .i64 ((rd_T37 x3_2 x6_2).f2))) (fun _ hk => hk.2) (.int .i64 ((rd_T37 x3_2 x6_2).f3))) (fun _ hk => ⟨hk.1.1, hk.1.2⟩)⟩, ⟨by (try simp only [hl3_2]); (with_reducible repeat (first | apply Kd.R_alloc | apply Kd.R_drewN | apply Kd.R_drew)); exact Kd.R_mono (Kd.R_far (p := ⟨gb170, 3, none⟩) (Kd.R_far (p := ⟨gb170, 2, none⟩) (Kd.R_far (p := ⟨gb170, 1, none⟩) (Kd.R_far (p := ⟨gb170, 0, none⟩) (Kd.R_types HO_4.out BK170.out (by decide)) (fun _ hk => hk.2) (.int .i64 ((rd_T37 x3_2 x6_2).f0))) (fun _ hk => hk.2) (.int .u64 ((rd_T37 x3_2 x6_2).f1))) (fun _ hk => hk.2) (.int .i64 ((rd_T37 x3_2 x6_2).f2))) (fun _ hk => hk.2) (.int .i64 ((rd_T37 x3_2 x6_2).f3))) (fun _ hk => trivial)⟩, ⟨by (try simp only [hl3_2]); (with_reducible repeat (first | apply Kd.R_alloc | apply Kd.R_drewN | apply Kd.R_drew)); exact Kd.R_mono (Kd.R_far (p := ⟨gb170, 3, none⟩) (Kd.R_far (p := ⟨gb170, 2, none⟩) (Kd.R_far (p := ⟨gb170, 1, none⟩) (Kd.R_far (p := ⟨gb170, 0, none⟩) (Kd.R_mono HO_5.out (fun k_ hk => (⟨hk, hk.2⟩ : _ ∧ k_ ≠ gb170))) (fun _ hk => hk.2) (.int .i64 ((rd_T37 x3_2 x6_2).f0))) (fun _ hk => hk.2) (.int .u64 ((rd_T37 x3_2 x6_2).f1))) (fun _ hk => hk.2) (.int .i64 ((rd_T37 x3_2 x6_2).f2))) (fun _ hk => hk.2) (.int .i64 ((rd_T37 x3_2 x6_2).f3))) (fun _ hk => ⟨hk.1.1, hk.1.2⟩)⟩, ⟨by (try simp only [hl3_2]); (with_reducible repeat (first | refine blk_drewN ?_ _ | refine blk_drew ?_ | refine blk_alloc ?_ _)); refine blk_put (cs := #[.int .i64 ((rd_T37 x3_2 x6_2).f0), .int .u64 ((rd_T37 x3_2 x6_2).f1), .int .i64 ((rd_T37 x3_2 x6_2).f2), .int .i64 0]) ?_ 3 _ rfl; (with_reducible repeat (first | refine blk_drewN ?_ _ | refine blk_drew ?_ | refine blk_alloc ?_ _)); refine blk_put (cs := #[.int .i64 ((rd_T37 x3_2 x6_2).f0), .int .u64 ((rd_T37 x3_2 x6_2).f1), .int .i64 0, .int .i64 0]) ?_ 2 _ rfl; (with_reducible repeat (first | refine blk_drewN ?_ _ | refine blk_drew ?_ | refine blk_alloc ?_ _)); refine blk_put (cs := #[.int .i64 ((rd_T37 x3_2 x6_2).f0), .int .u64 0, .int .i64 0, .int .i64 0]) ?_ 1 _ rfl; (with_reducible repeat (first | refine blk_drewN ?_ _ | refine blk_drew ?_ | refine blk_alloc ?_ _)); refine blk_put (cs := #[.int .i64 0, .int .u64 0, .int .i64 0, .int .i64 0]) ?_ 0 _ rfl; (with_reducible repeat (first | refine blk_drewN ?_ _ | refine blk_drew ?_ | refine blk_alloc ?_ _)); exact BK170.out⟩, ⟨by repeat (first | (with_reducible first | exact HB.out | apply below_alloc | apply pw_below_drewN | apply below_drew1 | refine below_set ?_ GE170.out) | exact HB.out)⟩⟩
          case round =>
           clear H'
           try clear c1
           try clear p1
           try clear q1
           try clear hx1
           try clear c2
           try clear p2
           try clear c3
           try clear c4
           try clear c8
           try clear c8b0
           try clear c8b1
           try clear c9
           try clear c9b0
           try clear c9b1
           try clear q10
           try clear c11
           try clear c13
           try clear c13b0
           try clear c13b1
           try clear c13b2
           try clear c16
           try clear p16
           try clear q16
           try clear hx16
           try clear c17
           try clear c18
           try clear c23
           try clear c23b0
           try clear c24
           try clear c24b0
           try clear hcz26_0
           try clear hcz26_1
           try clear hcz26_2
           try clear hcz26_3
           try clear hfz26_0
           try clear hfz26_1
           try clear hfz26_2
           try clear hfz26_3
           try clear hx169_0
           try clear hx169_1
           try clear hx169_2
           try clear hx169_3
           try clear p169
           try clear p2
           try clear q1
           try clear q10
           try clear q169
           obtain ⟨x8_3, x9_3, rfl, rfl, HA, HK3, HO_3, HO_4, HO_5, BK170, HB⟩ := hrel
           cases gk with
           | zero => exact absurd HA.out (by simp [laws_FnDictMap.l1])
           | succ k3 =>
            have H := HA.out
            clear HA
            simp only [laws_FnDictMap.l1] at H
            by_cases c27 : x9_3 < (x5_2.length : Int)
            ·rw [if_pos c27] at H
             have c27b0 : decide (x9_3 < (x5_2.length : Int)) = true := decide_eq_true c27
             (try simp only [hl3_2] at c27b0)
             clear c27
             by_cases c28 : 0 ≤ x9_3
             ·rw [if_pos c28] at H
              have c28b0 : decide (0 ≤ x9_3) = true := decide_eq_true c28
              clear c28
              by_cases c29 : ((rd_T37 x5_2 x9_3).f1) = ((rd_T37 x3_2 x6_2).f1)
              ·rw [if_pos c29] at H
               have c29b0 : (((rd_T37 x5_2 x9_3).f1) == ((rd_T37 x3_2 x6_2).f1)) = true := beq_iff_eq.mpr c29
               have c29b1 : (((rd_T37 x5_2 x9_3).f1) != ((rd_T37 x3_2 x6_2).f1)) = false := bne_eq_false_iff_eq.mpr c29
               clear c29
               by_cases c30 : ((rd_T37 x5_2 x9_3).f2) = ((rd_T37 x3_2 x6_2).f2)
               ·rw [if_pos c30] at H
                have c30b0 : (((rd_T37 x5_2 x9_3).f2) == ((rd_T37 x3_2 x6_2).f2)) = true := beq_iff_eq.mpr c30
                have c30b1 : (((rd_T37 x5_2 x9_3).f2) != ((rd_T37 x3_2 x6_2).f2)) = false := bne_eq_false_iff_eq.mpr c30
                clear c30
                have H' := Aside0.mk H
                clear H
                obtain ⟨Ao31, co31, eo31⟩ := Kd.R_slice HO_5.out
                subst eo31
                try go_wp2
                have n0_ := Aside0.mk (Kd.R_drew HO_3.out)
                have n1_ := Aside0.mk (Kd.R_drew HO_4.out)
                have n2_ := Aside0.mk (Kd.R_drew HO_5.out)
                have n3_ := Aside0.mk (blk_drew BK170.out)
                have n4_ := Aside0.mk (below_drew1 HB.out)
                clear HO_3
                clear HO_4
                clear HO_5
                clear BK170
                clear HB
                have HO_3 := n0_
                have HO_4 := n1_
                have HO_5 := n2_
                have BK170 := n3_
                have HB := n4_
                clear n0_ n1_ n2_ n3_ n4_
                have p171 : 0 ≤ (x9_3 : Int) := of_decide_eq_true qdm2_2
                have q171 : x9_3 < (x5_2.length : Int) := of_decide_eq_true qdm2_2
                obtain ⟨ad171, e171, hx171_0, hx171_1, hx171_2, hx171_3⟩ := at_T37 (Kd.R_reads' HO_5.out).2.2 x9_3 p171 q171
                cases e171
                replace p171 := eq_true p171
                replace q171 := eq_true q171
                have p172 : 0 ≤ (x9_3 : Int) := of_decide_eq_true qdm2_2
                have q172 : x9_3 < (x5_2.length : Int) := of_decide_eq_true qdm2_2
                obtain ⟨ad172, e172, hx172_0, hx172_1, hx172_2, hx172_3⟩ := at_T37 (Kd.R_reads' HO_5.out).2.2 x9_3 p172 q172
                obtain rfl : ad171 = ad172 := (by injection e172)
                replace p172 := eq_true p172
                replace q172 := eq_true q172
                refine start_ (n := 18) (S := fun w' => w'.cell? ⟨gb170, 0, none⟩ = some (.int .i64 ((rd_T37 x3_2 x6_2).f0)) ∧ w'.cell? ⟨gb170, 1, none⟩ = some (.int .u64 ((rd_T37 x3_2 x6_2).f1)) ∧ w'.cell? ⟨gb170, 2, none⟩ = some (.int .i64 ((rd_T37 x3_2 x6_2).f2)) ∧ w'.cell? ⟨gb170, 3, none⟩ = some (.int .i64 ((rd_T37 x3_2 x6_2).f3)) ∧ w'.cell? (ad171.add ((x9_3).toNat * 4)) = some (.int .i64 ((rd_T37 x5_2 x9_3).f0)) ∧ w'.cell? ⟨(ad171.add ((x9_3).toNat * 4)).block, (ad171.add ((x9_3).toNat * 4)).off + 1, none⟩ = some (.int .u64 ((rd_T37 x5_2 x9_3).f1)) ∧ w'.cell? ⟨(ad171.add ((x9_3).toNat * 4)).block, (ad171.add ((x9_3).toNat * 4)).off + 2, none⟩ = some (.int .i64 ((rd_T37 x5_2 x9_3).f2)) ∧ w'.cell? ⟨(ad171.add ((x9_3).toNat * 4)).block, (ad171.add ((x9_3).toNat * 4)).off + 3, none⟩ = some (.int .i64 ((rd_T37 x5_2 x9_3).f3)) ∧ w'.cell? (ad171.add ((x9_3).toNat * 4)) = some (.int .i64 ((rd_T37 x5_2 x9_3).f0)) ∧ w'.cell? ⟨(ad171.add ((x9_3).toNat * 4)).block, (ad171.add ((x9_3).toNat * 4)).off + 1, none⟩ = some (.int .u64 ((rd_T37 x5_2 x9_3).f1)) ∧ w'.cell? ⟨(ad171.add ((x9_3).toNat * 4)).block, (ad171.add ((x9_3).toNat * 4)).off + 2, none⟩ = some (.int .i64 ((rd_T37 x5_2 x9_3).f2)) ∧ w'.cell? ⟨(ad171.add ((x9_3).toNat * 4)).block, (ad171.add ((x9_3).toNat * 4)).off + 3, none⟩ = some (.int .i64 ((rd_T37 x5_2 x9_3).f3))) (ds := []) #[false, false, false, false, false, false, false, false, false, false, false, false, false, false, false, false, false, false] qdm2_7 rfl rfl ⟨(blk_cell BK170.out 0).trans rfl, (blk_cell BK170.out 1).trans rfl, (blk_cell BK170.out 2).trans rfl, (blk_cell BK170.out 3).trans rfl, hx171_0, hx171_1, hx171_2, hx171_3, hx172_0, hx172_1, hx172_2, hx172_3⟩ (fun hHeld => ?_); refine with_tabW laws_FnDictMap.tab18 laws_FnDictMap.bits18 (fun HT_ HW_ => ?_)
                generalize wr.drew = w32 at HO_3 HO_4 HO_5 BK170 HB hx171_0 hx171_1 hx171_2 hx171_3 hx172_0 hx172_1 hx172_2 hx172_3 hHeld ⊢
                refine pure_ (i := 0) (N := some 46) (v := ?_) (a' := ?_) #[true, false, false, false, false, false, false, false, false, false, false, false, false, false, false, false, false, false] rfl rfl (any_of HT_.out qdm2_7) (fun _ _ _ h => h) (Or.inl ⟨by rfl, ?_⟩) ?_ ?_
                rotate_left
                ·intro w'
                 go_simp
                 with_reducible rfl
                rotate_left
                ·simp only [Act.put, List.setIfInBounds_toArray, List.set_cons_zero, List.set_cons_succ, i64_w, i32_w]
                 rfl
                refine pure_ (i := 1) (N := some 47) (v := ?_) (a' := ?_) #[true, true, false, false, false, false, false, false, false, false, false, false, false, false, false, false, false, false] rfl rfl (any_of HT_.out qdm2_7) (fun _ _ _ h => h) (Or.inl ⟨by rfl, ?_⟩) ?_ ?_
                rotate_left
                ·intro w'
                 go_simp
                 with_reducible rfl
                rotate_left
                ·simp only [Act.put, List.setIfInBounds_toArray, List.set_cons_zero, List.set_cons_succ, i64_w, i32_w]
                 rfl
                refine pure_ (i := 2) (N := some 48) (v := ?_) (a' := ?_) #[true, true, true, false, false, false, false, false, false, false, false, false, false, false, false, false, false, false] rfl rfl (any_of HT_.out qdm2_7) (fun _ _ _ h => h) (Or.inl ⟨by rfl, ?_⟩) ?_ ?_
                rotate_left
                ·intro w'
                 go_simp
                 with_reducible rfl
                rotate_left
                ·simp only [Act.put, List.setIfInBounds_toArray, List.set_cons_zero, List.set_cons_succ, i64_w, i32_w]
                 rfl
                refine pure_ (i := 3) (N := some 49) (v := ?_) (a' := ?_) #[true, true, true, true, false, false, false, false, false, false, false, false, false, false, false, false, false, false] rfl rfl (any_of HT_.out qdm2_7) (fun _ _ _ h => h) (Or.inl ⟨by rfl, ?_⟩) ?_ ?_
                rotate_left
                ·intro w'
                 go_simp
                 with_reducible rfl
                rotate_left
                ·simp only [Act.put, List.setIfInBounds_toArray, List.set_cons_zero, List.set_cons_succ, i64_w, i32_w]
                 rfl
                refine pure_ (i := 5) (N := some 51) (v := ?_) (a' := ?_) #[true, true, true, true, false, true, false, false, false, false, false, false, false, false, false, false, false, false] rfl rfl (any_of HT_.out qdm2_7) (fun _ _ _ h => h) (Or.inl ⟨by rfl, ?_⟩) ?_ ?_
                rotate_left
                ·intro w'
                 go_simp
                 with_reducible rfl
                rotate_left
                ·simp only [Act.put, List.setIfInBounds_toArray, List.set_cons_zero, List.set_cons_succ, i64_w, i32_w]
                 rfl
                refine take_ (i := 4) (N := some 50) (v := ?_) (a' := ?_) #[true, true, true, true, true, true, false, false, false, false, false, false, false, false, false, false, false, false] rfl rfl (take_ofW HT_.out HW_.out qdm2_7) (fun _ _ _ h => h) (Or.inl ⟨by rfl, ?_⟩) hHeld ?_ ?_
                rotate_left
                ·rintro w' ⟨s0, s1, s2, s3, s4, s5, s6, s7, s8, s9, s10, s11⟩
                 go_simp
                 with_reducible rfl
                rotate_left
                ·simp only [Act.put, List.setIfInBounds_toArray, List.set_cons_zero, List.set_cons_succ, i64_w, i32_w]
                 rfl
                refine take_ (i := 6) (N := some 52) (v := ?_) (a' := ?_) #[true, true, true, true, true, true, true, false, false, false, false, false, false, false, false, false, false, false] rfl rfl (take_ofW HT_.out HW_.out qdm2_7) (fun _ _ _ h => h) (Or.inl ⟨by rfl, ?_⟩) hHeld ?_ ?_
                rotate_left
                ·rintro w' ⟨s0, s1, s2, s3, s4, s5, s6, s7, s8, s9, s10, s11⟩
                 go_simp
                 with_reducible rfl
                rotate_left
                ·simp only [Act.put, List.setIfInBounds_toArray, List.set_cons_zero, List.set_cons_succ, i64_w, i32_w]
                 rfl
                refine pure_ (i := 7) (N := some 53) (v := ?_) (a' := ?_) #[true, true, true, true, true, true, true, true, false, false, false, false, false, false, false, false, false, false] rfl rfl (any_of HT_.out qdm2_7) (fun _ _ _ h => h) (Or.inl ⟨by rfl, ?_⟩) ?_ ?_
                rotate_left
                ·intro w'
                 go_simp
                 with_reducible rfl
                rotate_left
                ·simp only [Act.put, List.setIfInBounds_toArray, List.set_cons_zero, List.set_cons_succ, i64_w, i32_w]
                 rfl
                refine pure_ (i := 8) (N := some 54) (v := ?_) (a' := ?_) #[true, true, true, true, true, true, true, true, true, false, false, false, false, false, false, false, false, false] rfl rfl (any_of HT_.out qdm2_7) (fun _ _ _ h => h) (Or.inl ⟨by rfl, ?_⟩) ?_ ?_
                rotate_left
                ·intro w'
                 go_simp
                 with_reducible rfl
                rotate_left
                ·simp only [Act.put, List.setIfInBounds_toArray, List.set_cons_zero, List.set_cons_succ, i64_w, i32_w]
                 rfl
                refine pure_ (i := 9) (N := some 55) (v := ?_) (a' := ?_) #[true, true, true, true, true, true, true, true, true, true, false, false, false, false, false, false, false, false] rfl rfl (any_of HT_.out qdm2_7) (fun _ _ _ h => h) (Or.inl ⟨by rfl, ?_⟩) ?_ ?_
                rotate_left
                ·intro w'
                 go_simp
                 with_reducible rfl
                rotate_left
                ·simp only [Act.put, List.setIfInBounds_toArray, List.set_cons_zero, List.set_cons_succ, i64_w, i32_w]
                 rfl
                refine pure_ (i := 10) (N := some 56) (v := ?_) (a' := ?_) #[true, true, true, true, true, true, true, true, true, true, true, false, false, false, false, false, false, false] rfl rfl (any_of HT_.out qdm2_7) (fun _ _ _ h => h) (Or.inl ⟨by rfl, ?_⟩) ?_ ?_
                rotate_left
                ·intro w'
                 go_simp
                 with_reducible rfl
                rotate_left
                ·simp only [Act.put, List.setIfInBounds_toArray, List.set_cons_zero, List.set_cons_succ, i64_w, i32_w]
                 rfl
                refine pure_ (i := 11) (N := some 57) (v := ?_) (a' := ?_) #[true, true, true, true, true, true, true, true, true, true, true, true, false, false, false, false, false, false] rfl rfl (any_of HT_.out qdm2_7) (fun _ _ _ h => h) (Or.inl ⟨by rfl, ?_⟩) ?_ ?_
                rotate_left
                ·intro w'
                 go_simp
                 with_reducible rfl
                rotate_left
                ·simp only [Act.put, List.setIfInBounds_toArray, List.set_cons_zero, List.set_cons_succ, i64_w, i32_w]
                 rfl
                refine pure_ (i := 12) (N := some 58) (v := ?_) (a' := ?_) #[true, true, true, true, true, true, true, true, true, true, true, true, true, false, false, false, false, false] rfl rfl (any_of HT_.out qdm2_7) (fun _ _ _ h => h) (Or.inl ⟨by rfl, ?_⟩) ?_ ?_
                rotate_left
                ·intro w'
                 go_simp
                 with_reducible rfl
                rotate_left
                ·simp only [Act.put, List.setIfInBounds_toArray, List.set_cons_zero, List.set_cons_succ, i64_w, i32_w]
                 rfl
                refine pure_ (i := 14) (N := some 60) (v := ?_) (a' := ?_) #[true, true, true, true, true, true, true, true, true, true, true, true, true, false, true, false, false, false] rfl rfl (any_of HT_.out qdm2_7) (fun _ _ _ h => h) (Or.inl ⟨by rfl, ?_⟩) ?_ ?_
                rotate_left
                ·intro w'
                 go_simp
                 with_reducible rfl
                rotate_left
                ·simp only [Act.put, List.setIfInBounds_toArray, List.set_cons_zero, List.set_cons_succ, i64_w, i32_w]
                 rfl
                refine take_ (i := 13) (N := some 59) (v := ?_) (a' := ?_) #[true, true, true, true, true, true, true, true, true, true, true, true, true, true, true, false, false, false] rfl rfl (take_ofW HT_.out HW_.out qdm2_7) (fun _ _ _ h => h) (Or.inl ⟨by rfl, ?_⟩) hHeld ?_ ?_
                rotate_left
                ·rintro w' ⟨s0, s1, s2, s3, s4, s5, s6, s7, s8, s9, s10, s11⟩
                 go_simp
                 with_reducible rfl
                rotate_left
                ·simp only [Act.put, List.setIfInBounds_toArray, List.set_cons_zero, List.set_cons_succ, i64_w, i32_w]
                 rfl
                refine take_ (i := 15) (N := some 61) (v := ?_) (a' := ?_) #[true, true, true, true, true, true, true, true, true, true, true, true, true, true, true, true, false, false] rfl rfl (take_ofW HT_.out HW_.out qdm2_7) (fun _ _ _ h => h) (Or.inl ⟨by rfl, ?_⟩) hHeld ?_ ?_
                rotate_left
                ·rintro w' ⟨s0, s1, s2, s3, s4, s5, s6, s7, s8, s9, s10, s11⟩
                 go_simp
                 with_reducible rfl
                rotate_left
                ·simp only [Act.put, List.setIfInBounds_toArray, List.set_cons_zero, List.set_cons_succ, i64_w, i32_w]
                 rfl
                refine pure_ (i := 16) (N := some 62) (v := ?_) (a' := ?_) #[true, true, true, true, true, true, true, true, true, true, true, true, true, true, true, true, true, false] rfl rfl (any_of HT_.out qdm2_7) (fun _ _ _ h => h) (Or.inl ⟨by rfl, ?_⟩) ?_ ?_
                rotate_left
                ·intro w'
                 go_simp
                 with_reducible rfl
                rotate_left
                ·simp only [Act.put, List.setIfInBounds_toArray, List.set_cons_zero, List.set_cons_succ, i64_w, i32_w]
                 rfl
                refine pure_ (i := 17) (N := some 63) (v := ?_) (a' := ?_) #[true, true, true, true, true, true, true, true, true, true, true, true, true, true, true, true, true, true] rfl rfl (any_of HT_.out qdm2_7) (fun _ _ _ h => h) (Or.inl ⟨by rfl, ?_⟩) ?_ ?_
                rotate_left
                ·intro w'
                 go_simp
                 with_reducible rfl
                rotate_left
                ·simp only [Act.put, List.setIfInBounds_toArray, List.set_cons_zero, List.set_cons_succ, i64_w, i32_w]
                 rfl
                refine done_ (done_of HT_.out qdm2_7) ?_
                try go_wp2
                go_roundg k3
                case measure => have := HJ4.out; have := HK2.out; have := HK3.out; omega
                case rel => exact ⟨(x9_3), (wrap64 (x9_3 + 1)), qdm2_6, qdm2_6, H', ⟨by have := HJ4.out; have := HK2.out; have := HK3.out; omega⟩, ⟨by (try simp only [hl3_2]); (with_reducible repeat (first | apply Kd.R_alloc | apply Kd.R_drewN | apply Kd.R_drew)); exact HO_3.out⟩, ⟨by (try simp only [hl3_2]); (with_reducible repeat (first | apply Kd.R_alloc | apply Kd.R_drewN | apply Kd.R_drew)); exact HO_4.out⟩, ⟨by (try simp only [hl3_2]); (with_reducible repeat (first | apply Kd.R_alloc | apply Kd.R_drewN | apply Kd.R_drew)); exact HO_5.out⟩, ⟨by (try simp only [hl3_2]); (with_reducible repeat (first | refine blk_drewN ?_ _ | refine blk_drew ?_ | refine blk_alloc ?_ _)); exact BK170.out⟩, ⟨by repeat (first | (with_reducible first | exact HB.out | apply below_alloc | apply pw_below_drewN | apply below_drew1 | refine below_set ?_ GE170.out) | exact HB.out)⟩⟩
               ·rw [if_neg c30] at H
                have c30b0 : (((rd_T37 x5_2 x9_3).f2) == ((rd_T37 x3_2 x6_2).f2)) = false := beq_eq_false_iff_ne.mpr c30
                have c30b1 : (((rd_T37 x5_2 x9_3).f2) != ((rd_T37 x3_2 x6_2).f2)) = true := bne_iff_ne.mpr c30
                have H' := Aside0.mk H
                clear H
                obtain ⟨Ao33, co33, eo33⟩ := Kd.R_slice HO_5.out
                subst eo33
                try go_wp2
                have n0_ := Aside0.mk (Kd.R_drew HO_3.out)
                have n1_ := Aside0.mk (Kd.R_drew HO_4.out)
                have n2_ := Aside0.mk (Kd.R_drew HO_5.out)
                have n3_ := Aside0.mk (blk_drew BK170.out)
                have n4_ := Aside0.mk (below_drew1 HB.out)
                clear HO_3
                clear HO_4
                clear HO_5
                clear BK170
                clear HB
                have HO_3 := n0_
                have HO_4 := n1_
                have HO_5 := n2_
                have BK170 := n3_
                have HB := n4_
                clear n0_ n1_ n2_ n3_ n4_
                have p171 : 0 ≤ (x9_3 : Int) := of_decide_eq_true qdm2_2
                have q171 : x9_3 < (x5_2.length : Int) := of_decide_eq_true qdm2_2
                obtain ⟨ad171, e171, hx171_0, hx171_1, hx171_2, hx171_3⟩ := at_T37 (Kd.R_reads' HO_5.out).2.2 x9_3 p171 q171
                cases e171
                replace p171 := eq_true p171
                replace q171 := eq_true q171
                have p172 : 0 ≤ (x9_3 : Int) := of_decide_eq_true qdm2_2
                have q172 : x9_3 < (x5_2.length : Int) := of_decide_eq_true qdm2_2
                obtain ⟨ad172, e172, hx172_0, hx172_1, hx172_2, hx172_3⟩ := at_T37 (Kd.R_reads' HO_5.out).2.2 x9_3 p172 q172
                obtain rfl : ad171 = ad172 := (by injection e172)
                replace p172 := eq_true p172
                replace q172 := eq_true q172
                refine start_ (n := 18) (S := fun w' => w'.cell? ⟨gb170, 0, none⟩ = some (.int .i64 ((rd_T37 x3_2 x6_2).f0)) ∧ w'.cell? ⟨gb170, 1, none⟩ = some (.int .u64 ((rd_T37 x3_2 x6_2).f1)) ∧ w'.cell? ⟨gb170, 2, none⟩ = some (.int .i64 ((rd_T37 x3_2 x6_2).f2)) ∧ w'.cell? ⟨gb170, 3, none⟩ = some (.int .i64 ((rd_T37 x3_2 x6_2).f3)) ∧ w'.cell? (ad171.add ((x9_3).toNat * 4)) = some (.int .i64 ((rd_T37 x5_2 x9_3).f0)) ∧ w'.cell? ⟨(ad171.add ((x9_3).toNat * 4)).block, (ad171.add ((x9_3).toNat * 4)).off + 1, none⟩ = some (.int .u64 ((rd_T37 x5_2 x9_3).f1)) ∧ w'.cell? ⟨(ad171.add ((x9_3).toNat * 4)).block, (ad171.add ((x9_3).toNat * 4)).off + 2, none⟩ = some (.int .i64 ((rd_T37 x5_2 x9_3).f2)) ∧ w'.cell? ⟨(ad171.add ((x9_3).toNat * 4)).block, (ad171.add ((x9_3).toNat * 4)).off + 3, none⟩ = some (.int .i64 ((rd_T37 x5_2 x9_3).f3)) ∧ w'.cell? (ad171.add ((x9_3).toNat * 4)) = some (.int .i64 ((rd_T37 x5_2 x9_3).f0)) ∧ w'.cell? ⟨(ad171.add ((x9_3).toNat * 4)).block, (ad171.add ((x9_3).toNat * 4)).off + 1, none⟩ = some (.int .u64 ((rd_T37 x5_2 x9_3).f1)) ∧ w'.cell? ⟨(ad171.add ((x9_3).toNat * 4)).block, (ad171.add ((x9_3).toNat * 4)).off + 2, none⟩ = some (.int .i64 ((rd_T37 x5_2 x9_3).f2)) ∧ w'.cell? ⟨(ad171.add ((x9_3).toNat * 4)).block, (ad171.add ((x9_3).toNat * 4)).off + 3, none⟩ = some (.int .i64 ((rd_T37 x5_2 x9_3).f3))) (ds := []) #[false, false, false, false, false, false, false, false, false, false, false, false, false, false, false, false, false, false] qdm2_7 rfl rfl ⟨(blk_cell BK170.out 0).trans rfl, (blk_cell BK170.out 1).trans rfl, (blk_cell BK170.out 2).trans rfl, (blk_cell BK170.out 3).trans rfl, hx171_0, hx171_1, hx171_2, hx171_3, hx172_0, hx172_1, hx172_2, hx172_3⟩ (fun hHeld => ?_); refine with_tabW laws_FnDictMap.tab18 laws_FnDictMap.bits18 (fun HT_ HW_ => ?_)
                generalize wr.drew = w34 at HO_3 HO_4 HO_5 BK170 HB hx171_0 hx171_1 hx171_2 hx171_3 hx172_0 hx172_1 hx172_2 hx172_3 hHeld ⊢
                refine pure_ (i := 0) (N := some 46) (v := ?_) (a' := ?_) #[true, false, false, false, false, false, false, false, false, false, false, false, false, false, false, false, false, false] rfl rfl (any_of HT_.out qdm2_7) (fun _ _ _ h => h) (Or.inl ⟨by rfl, ?_⟩) ?_ ?_
                rotate_left
                ·intro w'
                 go_simp
                 with_reducible rfl
                rotate_left
                ·simp only [Act.put, List.setIfInBounds_toArray, List.set_cons_zero, List.set_cons_succ, i64_w, i32_w]
                 rfl
                refine pure_ (i := 1) (N := some 47) (v := ?_) (a' := ?_) #[true, true, false, false, false, false, false, false, false, false, false, false, false, false, false, false, false, false] rfl rfl (any_of HT_.out qdm2_7) (fun _ _ _ h => h) (Or.inl ⟨by rfl, ?_⟩) ?_ ?_
                rotate_left
                ·intro w'
                 go_simp
                 with_reducible rfl
                rotate_left
                ·simp only [Act.put, List.setIfInBounds_toArray, List.set_cons_zero, List.set_cons_succ, i64_w, i32_w]
                 rfl
                refine pure_ (i := 2) (N := some 48) (v := ?_) (a' := ?_) #[true, true, true, false, false, false, false, false, false, false, false, false, false, false, false, false, false, false] rfl rfl (any_of HT_.out qdm2_7) (fun _ _ _ h => h) (Or.inl ⟨by rfl, ?_⟩) ?_ ?_
                rotate_left
                ·intro w'
                 go_simp
                 with_reducible rfl
                rotate_left
                ·simp only [Act.put, List.setIfInBounds_toArray, List.set_cons_zero, List.set_cons_succ, i64_w, i32_w]
                 rfl
                refine pure_ (i := 3) (N := some 49) (v := ?_) (a' := ?_) #[true, true, true, true, false, false, false, false, false, false, false, false, false, false, false, false, false, false] rfl rfl (any_of HT_.out qdm2_7) (fun _ _ _ h => h) (Or.inl ⟨by rfl, ?_⟩) ?_ ?_
                rotate_left
                ·intro w'
                 go_simp
                 with_reducible rfl
                rotate_left
                ·simp only [Act.put, List.setIfInBounds_toArray, List.set_cons_zero, List.set_cons_succ, i64_w, i32_w]
                 rfl
                refine pure_ (i := 5) (N := some 51) (v := ?_) (a' := ?_) #[true, true, true, true, false, true, false, false, false, false, false, false, false, false, false, false, false, false] rfl rfl (any_of HT_.out qdm2_7) (fun _ _ _ h => h) (Or.inl ⟨by rfl, ?_⟩) ?_ ?_
                rotate_left
                ·intro w'
                 go_simp
                 with_reducible rfl
                rotate_left
                ·simp only [Act.put, List.setIfInBounds_toArray, List.set_cons_zero, List.set_cons_succ, i64_w, i32_w]
                 rfl
                refine take_ (i := 4) (N := some 50) (v := ?_) (a' := ?_) #[true, true, true, true, true, true, false, false, false, false, false, false, false, false, false, false, false, false] rfl rfl (take_ofW HT_.out HW_.out qdm2_7) (fun _ _ _ h => h) (Or.inl ⟨by rfl, ?_⟩) hHeld ?_ ?_
                rotate_left
                ·rintro w' ⟨s0, s1, s2, s3, s4, s5, s6, s7, s8, s9, s10, s11⟩
                 go_simp
                 with_reducible rfl
                rotate_left
                ·simp only [Act.put, List.setIfInBounds_toArray, List.set_cons_zero, List.set_cons_succ, i64_w, i32_w]
                 rfl
                refine take_ (i := 6) (N := some 52) (v := ?_) (a' := ?_) #[true, true, true, true, true, true, true, false, false, false, false, false, false, false, false, false, false, false] rfl rfl (take_ofW HT_.out HW_.out qdm2_7) (fun _ _ _ h => h) (Or.inl ⟨by rfl, ?_⟩) hHeld ?_ ?_
                rotate_left
                ·rintro w' ⟨s0, s1, s2, s3, s4, s5, s6, s7, s8, s9, s10, s11⟩
                 go_simp
                 with_reducible rfl
                rotate_left
                ·simp only [Act.put, List.setIfInBounds_toArray, List.set_cons_zero, List.set_cons_succ, i64_w, i32_w]
                 rfl
                refine pure_ (i := 7) (N := some 53) (v := ?_) (a' := ?_) #[true, true, true, true, true, true, true, true, false, false, false, false, false, false, false, false, false, false] rfl rfl (any_of HT_.out qdm2_7) (fun _ _ _ h => h) (Or.inl ⟨by rfl, ?_⟩) ?_ ?_
                rotate_left
                ·intro w'
                 go_simp
                 with_reducible rfl
                rotate_left
                ·simp only [Act.put, List.setIfInBounds_toArray, List.set_cons_zero, List.set_cons_succ, i64_w, i32_w]
                 rfl
                refine pure_ (i := 8) (N := some 54) (v := ?_) (a' := ?_) #[true, true, true, true, true, true, true, true, true, false, false, false, false, false, false, false, false, false] rfl rfl (any_of HT_.out qdm2_7) (fun _ _ _ h => h) (Or.inl ⟨by rfl, ?_⟩) ?_ ?_
                rotate_left
                ·intro w'
                 go_simp
                 with_reducible rfl
                rotate_left
                ·simp only [Act.put, List.setIfInBounds_toArray, List.set_cons_zero, List.set_cons_succ, i64_w, i32_w]
                 rfl
                refine pure_ (i := 9) (N := some 55) (v := ?_) (a' := ?_) #[true, true, true, true, true, true, true, true, true, true, false, false, false, false, false, false, false, false] rfl rfl (any_of HT_.out qdm2_7) (fun _ _ _ h => h) (Or.inl ⟨by rfl, ?_⟩) ?_ ?_
                rotate_left
                ·intro w'
                 go_simp
                 with_reducible rfl
                rotate_left
                ·simp only [Act.put, List.setIfInBounds_toArray, List.set_cons_zero, List.set_cons_succ, i64_w, i32_w]
                 rfl
                refine pure_ (i := 10) (N := some 56) (v := ?_) (a' := ?_) #[true, true, true, true, true, true, true, true, true, true, true, false, false, false, false, false, false, false] rfl rfl (any_of HT_.out qdm2_7) (fun _ _ _ h => h) (Or.inl ⟨by rfl, ?_⟩) ?_ ?_
                rotate_left
                ·intro w'
                 go_simp
                 with_reducible rfl
                rotate_left
                ·simp only [Act.put, List.setIfInBounds_toArray, List.set_cons_zero, List.set_cons_succ, i64_w, i32_w]
                 rfl
                refine pure_ (i := 11) (N := some 57) (v := ?_) (a' := ?_) #[true, true, true, true, true, true, true, true, true, true, true, true, false, false, false, false, false, false] rfl rfl (any_of HT_.out qdm2_7) (fun _ _ _ h => h) (Or.inl ⟨by rfl, ?_⟩) ?_ ?_
                rotate_left
                ·intro w'
                 go_simp
                 with_reducible rfl
                rotate_left
                ·simp only [Act.put, List.setIfInBounds_toArray, List.set_cons_zero, List.set_cons_succ, i64_w, i32_w]
                 rfl
                refine pure_ (i := 12) (N := some 58) (v := ?_) (a' := ?_) #[true, true, true, true, true, true, true, true, true, true, true, true, true, false, false, false, false, false] rfl rfl (any_of HT_.out qdm2_7) (fun _ _ _ h => h) (Or.inl ⟨by rfl, ?_⟩) ?_ ?_
                rotate_left
                ·intro w'
                 go_simp
                 with_reducible rfl
                rotate_left
                ·simp only [Act.put, List.setIfInBounds_toArray, List.set_cons_zero, List.set_cons_succ, i64_w, i32_w]
                 rfl
                refine pure_ (i := 14) (N := some 60) (v := ?_) (a' := ?_) #[true, true, true, true, true, true, true, true, true, true, true, true, true, false, true, false, false, false] rfl rfl (any_of HT_.out qdm2_7) (fun _ _ _ h => h) (Or.inl ⟨by rfl, ?_⟩) ?_ ?_
                rotate_left
                ·intro w'
                 go_simp
                 with_reducible rfl
                rotate_left
                ·simp only [Act.put, List.setIfInBounds_toArray, List.set_cons_zero, List.set_cons_succ, i64_w, i32_w]
                 rfl
                refine take_ (i := 13) (N := some 59) (v := ?_) (a' := ?_) #[true, true, true, true, true, true, true, true, true, true, true, true, true, true, true, false, false, false] rfl rfl (take_ofW HT_.out HW_.out qdm2_7) (fun _ _ _ h => h) (Or.inl ⟨by rfl, ?_⟩) hHeld ?_ ?_
                rotate_left
                ·rintro w' ⟨s0, s1, s2, s3, s4, s5, s6, s7, s8, s9, s10, s11⟩
                 go_simp
                 with_reducible rfl
                rotate_left
                ·simp only [Act.put, List.setIfInBounds_toArray, List.set_cons_zero, List.set_cons_succ, i64_w, i32_w]
                 rfl
                refine take_ (i := 15) (N := some 61) (v := ?_) (a' := ?_) #[true, true, true, true, true, true, true, true, true, true, true, true, true, true, true, true, false, false] rfl rfl (take_ofW HT_.out HW_.out qdm2_7) (fun _ _ _ h => h) (Or.inl ⟨by rfl, ?_⟩) hHeld ?_ ?_
                rotate_left
                ·rintro w' ⟨s0, s1, s2, s3, s4, s5, s6, s7, s8, s9, s10, s11⟩
                 go_simp
                 with_reducible rfl
                rotate_left
                ·simp only [Act.put, List.setIfInBounds_toArray, List.set_cons_zero, List.set_cons_succ, i64_w, i32_w]
                 rfl
                refine pure_ (i := 16) (N := some 62) (v := ?_) (a' := ?_) #[true, true, true, true, true, true, true, true, true, true, true, true, true, true, true, true, true, false] rfl rfl (any_of HT_.out qdm2_7) (fun _ _ _ h => h) (Or.inl ⟨by rfl, ?_⟩) ?_ ?_
                rotate_left
                ·intro w'
                 go_simp
                 with_reducible rfl
                rotate_left
                ·simp only [Act.put, List.setIfInBounds_toArray, List.set_cons_zero, List.set_cons_succ, i64_w, i32_w]
                 rfl
                refine pure_ (i := 17) (N := some 63) (v := ?_) (a' := ?_) #[true, true, true, true, true, true, true, true, true, true, true, true, true, true, true, true, true, true] rfl rfl (any_of HT_.out qdm2_7) (fun _ _ _ h => h) (Or.inl ⟨by rfl, ?_⟩) ?_ ?_
                rotate_left
                ·intro w'
                 go_simp
                 with_reducible rfl
                rotate_left
                ·simp only [Act.put, List.setIfInBounds_toArray, List.set_cons_zero, List.set_cons_succ, i64_w, i32_w]
                 rfl
                refine done_ (done_of HT_.out qdm2_7) ?_
                try go_wp2
                go_roundg k3
                case measure => have := HJ4.out; have := HK2.out; have := HK3.out; omega
                case rel => exact ⟨(x8_3), (wrap64 (x9_3 + 1)), qdm2_6, qdm2_6, H', ⟨by have := HJ4.out; have := HK2.out; have := HK3.out; omega⟩, ⟨by (try simp only [hl3_2]); (with_reducible repeat (first | apply Kd.R_alloc | apply Kd.R_drewN | apply Kd.R_drew)); exact HO_3.out⟩, ⟨by (try simp only [hl3_2]); (with_reducible repeat (first | apply Kd.R_alloc | apply Kd.R_drewN | apply Kd.R_drew)); exact HO_4.out⟩, ⟨by (try simp only [hl3_2]); (with_reducible repeat (first | apply Kd.R_alloc | apply Kd.R_drewN | apply Kd.R_drew)); exact HO_5.out⟩, ⟨by (try simp only [hl3_2]); (with_reducible repeat (first | refine blk_drewN ?_ _ | refine blk_drew ?_ | refine blk_alloc ?_ _)); exact BK170.out⟩, ⟨by repeat (first | (with_reducible first | exact HB.out | apply below_alloc | apply pw_below_drewN | apply below_drew1 | refine below_set ?_ GE170.out) | exact HB.out)⟩⟩
              ·rw [if_neg c29] at H
               have c29b0 : (((rd_T37 x5_2 x9_3).f1) == ((rd_T37 x3_2 x6_2).f1)) = false := beq_eq_false_iff_ne.mpr c29
               have c29b1 : (((rd_T37 x5_2 x9_3).f1) != ((rd_T37 x3_2 x6_2).f1)) = true := bne_iff_ne.mpr c29
               have H' := Aside0.mk H
               clear H
               obtain ⟨Ao35, co35, eo35⟩ := Kd.R_slice HO_5.out
               subst eo35
               try go_wp2
               have n0_ := Aside0.mk (Kd.R_drew HO_3.out)
               have n1_ := Aside0.mk (Kd.R_drew HO_4.out)
               have n2_ := Aside0.mk (Kd.R_drew HO_5.out)
               have n3_ := Aside0.mk (blk_drew BK170.out)
               have n4_ := Aside0.mk (below_drew1 HB.out)
               clear HO_3
               clear HO_4
               clear HO_5
               clear BK170
               clear HB
               have HO_3 := n0_
               have HO_4 := n1_
               have HO_5 := n2_
               have BK170 := n3_
               have HB := n4_
               clear n0_ n1_ n2_ n3_ n4_
               have p171 : 0 ≤ (x9_3 : Int) := of_decide_eq_true qdm2_2
               have q171 : x9_3 < (x5_2.length : Int) := of_decide_eq_true qdm2_2
               obtain ⟨ad171, e171, hx171_0, hx171_1, hx171_2, hx171_3⟩ := at_T37 (Kd.R_reads' HO_5.out).2.2 x9_3 p171 q171
               cases e171
               replace p171 := eq_true p171
               replace q171 := eq_true q171
               refine start_ (n := 18) (S := fun w' => w'.cell? ⟨gb170, 0, none⟩ = some (.int .i64 ((rd_T37 x3_2 x6_2).f0)) ∧ w'.cell? ⟨gb170, 1, none⟩ = some (.int .u64 ((rd_T37 x3_2 x6_2).f1)) ∧ w'.cell? ⟨gb170, 2, none⟩ = some (.int .i64 ((rd_T37 x3_2 x6_2).f2)) ∧ w'.cell? ⟨gb170, 3, none⟩ = some (.int .i64 ((rd_T37 x3_2 x6_2).f3)) ∧ w'.cell? (ad171.add ((x9_3).toNat * 4)) = some (.int .i64 ((rd_T37 x5_2 x9_3).f0)) ∧ w'.cell? ⟨(ad171.add ((x9_3).toNat * 4)).block, (ad171.add ((x9_3).toNat * 4)).off + 1, none⟩ = some (.int .u64 ((rd_T37 x5_2 x9_3).f1)) ∧ w'.cell? ⟨(ad171.add ((x9_3).toNat * 4)).block, (ad171.add ((x9_3).toNat * 4)).off + 2, none⟩ = some (.int .i64 ((rd_T37 x5_2 x9_3).f2)) ∧ w'.cell? ⟨(ad171.add ((x9_3).toNat * 4)).block, (ad171.add ((x9_3).toNat * 4)).off + 3, none⟩ = some (.int .i64 ((rd_T37 x5_2 x9_3).f3))) (ds := []) #[false, false, false, false, false, false, false, false, false, false, false, false, false, false, false, false, false, false] qdm2_7 rfl rfl ⟨(blk_cell BK170.out 0).trans rfl, (blk_cell BK170.out 1).trans rfl, (blk_cell BK170.out 2).trans rfl, (blk_cell BK170.out 3).trans rfl, hx171_0, hx171_1, hx171_2, hx171_3⟩ (fun hHeld => ?_); refine with_tabW laws_FnDictMap.tab18 laws_FnDictMap.bits18 (fun HT_ HW_ => ?_)
               generalize wr.drew = w36 at HO_3 HO_4 HO_5 BK170 HB hx171_0 hx171_1 hx171_2 hx171_3 hHeld ⊢
               refine pure_ (i := 0) (N := some 46) (v := ?_) (a' := ?_) #[true, false, false, false, false, false, false, false, false, false, false, false, false, false, false, false, false, false] rfl rfl (any_of HT_.out qdm2_7) (fun _ _ _ h => h) (Or.inl ⟨by rfl, ?_⟩) ?_ ?_
               rotate_left
               ·intro w'
                go_simp
                with_reducible rfl
               rotate_left
               ·simp only [Act.put, List.setIfInBounds_toArray, List.set_cons_zero, List.set_cons_succ, i64_w, i32_w]
                rfl
               refine pure_ (i := 1) (N := some 47) (v := ?_) (a' := ?_) #[true, true, false, false, false, false, false, false, false, false, false, false, false, false, false, false, false, false] rfl rfl (any_of HT_.out qdm2_7) (fun _ _ _ h => h) (Or.inl ⟨by rfl, ?_⟩) ?_ ?_
               rotate_left
               ·intro w'
                go_simp
                with_reducible rfl
               rotate_left
               ·simp only [Act.put, List.setIfInBounds_toArray, List.set_cons_zero, List.set_cons_succ, i64_w, i32_w]
                rfl
               refine pure_ (i := 2) (N := some 48) (v := ?_) (a' := ?_) #[true, true, true, false, false, false, false, false, false, false, false, false, false, false, false, false, false, false] rfl rfl (any_of HT_.out qdm2_7) (fun _ _ _ h => h) (Or.inl ⟨by rfl, ?_⟩) ?_ ?_
               rotate_left
               ·intro w'
                go_simp
                with_reducible rfl
               rotate_left
               ·simp only [Act.put, List.setIfInBounds_toArray, List.set_cons_zero, List.set_cons_succ, i64_w, i32_w]
                rfl
               refine pure_ (i := 3) (N := some 49) (v := ?_) (a' := ?_) #[true, true, true, true, false, false, false, false, false, false, false, false, false, false, false, false, false, false] rfl rfl (any_of HT_.out qdm2_7) (fun _ _ _ h => h) (Or.inl ⟨by rfl, ?_⟩) ?_ ?_
               rotate_left
               ·intro w'
                go_simp
                with_reducible rfl
               rotate_left
               ·simp only [Act.put, List.setIfInBounds_toArray, List.set_cons_zero, List.set_cons_succ, i64_w, i32_w]
                rfl
               refine pure_ (i := 5) (N := some 51) (v := ?_) (a' := ?_) #[true, true, true, true, false, true, false, false, false, false, false, false, false, false, false, false, false, false] rfl rfl (any_of HT_.out qdm2_7) (fun _ _ _ h => h) (Or.inl ⟨by rfl, ?_⟩) ?_ ?_
               rotate_left
               ·intro w'
                go_simp
                with_reducible rfl
               rotate_left
               ·simp only [Act.put, List.setIfInBounds_toArray, List.set_cons_zero, List.set_cons_succ, i64_w, i32_w]
                rfl
               refine take_ (i := 4) (N := some 50) (v := ?_) (a' := ?_) #[true, true, true, true, true, true, false, false, false, false, false, false, false, false, false, false, false, false] rfl rfl (take_ofW HT_.out HW_.out qdm2_7) (fun _ _ _ h => h) (Or.inl ⟨by rfl, ?_⟩) hHeld ?_ ?_
               rotate_left
               ·rintro w' ⟨s0, s1, s2, s3, s4, s5, s6, s7⟩
                go_simp
                with_reducible rfl
               rotate_left
               ·simp only [Act.put, List.setIfInBounds_toArray, List.set_cons_zero, List.set_cons_succ, i64_w, i32_w]
                rfl
               refine take_ (i := 6) (N := some 52) (v := ?_) (a' := ?_) #[true, true, true, true, true, true, true, false, false, false, false, false, false, false, false, false, false, false] rfl rfl (take_ofW HT_.out HW_.out qdm2_7) (fun _ _ _ h => h) (Or.inl ⟨by rfl, ?_⟩) hHeld ?_ ?_
               rotate_left
               ·rintro w' ⟨s0, s1, s2, s3, s4, s5, s6, s7⟩
                go_simp
                with_reducible rfl
               rotate_left
               ·simp only [Act.put, List.setIfInBounds_toArray, List.set_cons_zero, List.set_cons_succ, i64_w, i32_w]
                rfl
               refine pure_ (i := 7) (N := some 53) (v := ?_) (a' := ?_) #[true, true, true, true, true, true, true, true, false, false, false, false, false, false, false, false, false, false] rfl rfl (any_of HT_.out qdm2_7) (fun _ _ _ h => h) (Or.inl ⟨by rfl, ?_⟩) ?_ ?_
               rotate_left
               ·intro w'
                go_simp
                with_reducible rfl
               rotate_left
               ·simp only [Act.put, List.setIfInBounds_toArray, List.set_cons_zero, List.set_cons_succ, i64_w, i32_w]
                rfl
               refine pure_ (i := 8) (N := some 54) (v := ?_) (a' := ?_) #[true, true, true, true, true, true, true, true, true, false, false, false, false, false, false, false, false, false] rfl rfl (any_of HT_.out qdm2_7) (fun _ _ _ h => h) (Or.inl ⟨by rfl, ?_⟩) ?_ ?_
               rotate_left
               ·intro w'
                go_simp
                with_reducible rfl
               rotate_left
               ·simp only [Act.put, List.setIfInBounds_toArray, List.set_cons_zero, List.set_cons_succ, i64_w, i32_w]
                rfl
               refine pure_ (i := 9) (N := some 55) (v := undef) (a' := ?_) #[true, true, true, true, true, true, true, true, true, true, false, false, false, false, false, false, false, false] rfl rfl (any_of HT_.out qdm2_7) (fun _ _ _ h => h) (Or.inr ⟨by rfl, rfl⟩) ?_ ?_
               rotate_left
               ·simp only [Act.put, List.setIfInBounds_toArray, List.set_cons_zero, List.set_cons_succ, i64_w, i32_w]
                rfl
               refine pure_ (i := 10) (N := some 56) (v := undef) (a' := ?_) #[true, true, true, true, true, true, true, true, true, true, true, false, false, false, false, false, false, false] rfl rfl (any_of HT_.out qdm2_7) (fun _ _ _ h => h) (Or.inr ⟨by rfl, rfl⟩) ?_ ?_
               rotate_left
               ·simp only [Act.put, List.setIfInBounds_toArray, List.set_cons_zero, List.set_cons_succ, i64_w, i32_w]
                rfl
               refine pure_ (i := 11) (N := some 57) (v := undef) (a' := ?_) #[true, true, true, true, true, true, true, true, true, true, true, true, false, false, false, false, false, false] rfl rfl (any_of HT_.out qdm2_7) (fun _ _ _ h => h) (Or.inr ⟨by rfl, rfl⟩) ?_ ?_
               rotate_left
               ·simp only [Act.put, List.setIfInBounds_toArray, List.set_cons_zero, List.set_cons_succ, i64_w, i32_w]
                rfl
               refine pure_ (i := 12) (N := some 58) (v := undef) (a' := ?_) #[true, true, true, true, true, true, true, true, true, true, true, true, true, false, false, false, false, false] rfl rfl (any_of HT_.out qdm2_7) (fun _ _ _ h => h) (Or.inr ⟨by rfl, rfl⟩) ?_ ?_
               rotate_left
               ·simp only [Act.put, List.setIfInBounds_toArray, List.set_cons_zero, List.set_cons_succ, i64_w, i32_w]
                rfl
               refine pure_ (i := 13) (N := some 59) (v := undef) (a' := ?_) #[true, true, true, true, true, true, true, true, true, true, true, true, true, true, false, false, false, false] rfl rfl (any_of HT_.out qdm2_7) (fun _ _ _ h => h) (Or.inr ⟨by rfl, rfl⟩) ?_ ?_
               rotate_left
               ·simp only [Act.put, List.setIfInBounds_toArray, List.set_cons_zero, List.set_cons_succ, i64_w, i32_w]
                rfl
               refine pure_ (i := 14) (N := some 60) (v := undef) (a' := ?_) #[true, true, true, true, true, true, true, true, true, true, true, true, true, true, true, false, false, false] rfl rfl (any_of HT_.out qdm2_7) (fun _ _ _ h => h) (Or.inr ⟨by rfl, rfl⟩) ?_ ?_
               rotate_left
               ·simp only [Act.put, List.setIfInBounds_toArray, List.set_cons_zero, List.set_cons_succ, i64_w, i32_w]
                rfl
               refine pure_ (i := 15) (N := some 61) (v := undef) (a' := ?_) #[true, true, true, true, true, true, true, true, true, true, true, true, true, true, true, true, false, false] rfl rfl (any_of HT_.out qdm2_7) (fun _ _ _ h => h) (Or.inr ⟨by rfl, rfl⟩) ?_ ?_
               rotate_left
               ·simp only [Act.put, List.setIfInBounds_toArray, List.set_cons_zero, List.set_cons_succ, i64_w, i32_w]
                rfl
               refine pure_ (i := 16) (N := some 62) (v := undef) (a' := ?_) #[true, true, true, true, true, true, true, true, true, true, true, true, true, true, true, true, true, false] rfl rfl (any_of HT_.out qdm2_7) (fun _ _ _ h => h) (Or.inr ⟨by rfl, rfl⟩) ?_ ?_
               rotate_left
               ·simp only [Act.put, List.setIfInBounds_toArray, List.set_cons_zero, List.set_cons_succ, i64_w, i32_w]
                rfl
               refine pure_ (i := 17) (N := some 63) (v := ?_) (a' := ?_) #[true, true, true, true, true, true, true, true, true, true, true, true, true, true, true, true, true, true] rfl rfl (any_of HT_.out qdm2_7) (fun _ _ _ h => h) (Or.inl ⟨by rfl, ?_⟩) ?_ ?_
               rotate_left
               ·intro w'
                go_simp
                with_reducible rfl
               rotate_left
               ·simp only [Act.put, List.setIfInBounds_toArray, List.set_cons_zero, List.set_cons_succ, i64_w, i32_w]
                rfl
               refine done_ (done_of HT_.out qdm2_7) ?_
               try go_wp2
               go_roundg k3
               case measure => have := HJ4.out; have := HK2.out; have := HK3.out; omega
               case rel => exact ⟨(x8_3), (wrap64 (x9_3 + 1)), qdm2_6, qdm2_6, H', ⟨by have := HJ4.out; have := HK2.out; have := HK3.out; omega⟩, ⟨by (try simp only [hl3_2]); (with_reducible repeat (first | apply Kd.R_alloc | apply Kd.R_drewN | apply Kd.R_drew)); exact HO_3.out⟩, ⟨by (try simp only [hl3_2]); (with_reducible repeat (first | apply Kd.R_alloc | apply Kd.R_drewN | apply Kd.R_drew)); exact HO_4.out⟩, ⟨by (try simp only [hl3_2]); (with_reducible repeat (first | apply Kd.R_alloc | apply Kd.R_drewN | apply Kd.R_drew)); exact HO_5.out⟩, ⟨by (try simp only [hl3_2]); (with_reducible repeat (first | refine blk_drewN ?_ _ | refine blk_drew ?_ | refine blk_alloc ?_ _)); exact BK170.out⟩, ⟨by repeat (first | (with_reducible first | exact HB.out | apply below_alloc | apply pw_below_drewN | apply below_drew1 | refine below_set ?_ GE170.out) | exact HB.out)⟩⟩
             ·rw [if_neg c28] at H
              exact absurd H (by simp)
            ·rw [if_neg c27] at H
             have c27b0 : decide (x9_3 < (x5_2.length : Int)) = false := decide_eq_false c27
             (try simp only [hl3_2] at c27b0)
             clear c27
             by_cases c37 : ((rd_T37 x3_2 x6_2).f0) = 1
             ·rw [if_pos c37] at H
              have c37b0 : (((rd_T37 x3_2 x6_2).f0) == 1) = true := beq_iff_eq.mpr c37
              have c37b1 : (((rd_T37 x3_2 x6_2).f0) != 1) = false := bne_eq_false_iff_eq.mpr c37
              clear c37
              by_cases c38 : x8_3 ≥ 0
              ·rw [if_pos c38] at H
               have c38b0 : decide (0 ≤ x8_3) = true := decide_eq_true c38
               clear c38
               by_cases c39 : 0 ≤ x8_3
               ·rw [if_pos c39] at H
                have c39b0 : decide (0 ≤ x8_3) = true := decide_eq_true c39
                clear c39
                by_cases c40 : x8_3 < (x5_2.length : Int)
                ·rw [if_pos c40] at H
                 have c40b0 : decide (x8_3 < (x5_2.length : Int)) = true := decide_eq_true c40
                 (try simp only [hl3_2] at c40b0)
                 clear c40
                 obtain ⟨y173, hy173⟩ : ∃ y_ : List (S37), y_ = (x5_2.set (x8_3 : Int).toNat (⟨(rd_T37 x5_2 x8_3).f0, (rd_T37 x5_2 x8_3).f1, (rd_T37 x5_2 x8_3).f2, ((rd_T37 x3_2 x6_2).f3)⟩ : S37)) := ⟨_, rfl⟩
                 replace H : (if 0 ≤ x6_2 then (if x6_2 < (t163.length : Int) then (if (rd t163 x6_2) = 1 then (laws_FnDictMap.l0 k3 x3_2 t163 y173 (wrap64 (x6_2 + 1))) else (none)) else (none)) else (none)) = some r := by first | (rw [hy173]; with_reducible exact H) | (have H2_ := (Option.bind_some _ _).symm.trans H; rw [hy173]; with_reducible exact H2_) | (have H2_ := (Option.bind_some _ _).symm.trans H; with_reducible exact H2_) | with_reducible exact H | (rw [hy173]; exact H) | exact H
                 have Ny173 := Aside0.mk hy173
                 clear hy173
                 by_cases c42 : 0 ≤ x6_2
                 ·rw [if_pos c42] at H
                  have c42b0 : decide (0 ≤ x6_2) = true := decide_eq_true c42
                  clear c42
                  by_cases c43 : x6_2 < (t163.length : Int)
                  ·rw [if_pos c43] at H
                   have c43b0 : decide (x6_2 < (t163.length : Int)) = true := decide_eq_true c43
                   (try simp only [hl3_2] at c43b0)
                   clear c43
                   by_cases c44 : (rd t163 x6_2) = 1
                   ·rw [if_pos c44] at H
                    have c44b0 : ((rd t163 x6_2) == 1) = true := beq_iff_eq.mpr c44
                    have c44b1 : ((rd t163 x6_2) != 1) = false := bne_eq_false_iff_eq.mpr c44
                    clear c44
                    have H' := Aside0.mk H
                    clear H
                    obtain ⟨Ao45, co45, eo45⟩ := Kd.R_slice HO_5.out
                    subst eo45
                    have hcz46_0 : wr.cell? ⟨gb170, 0, none⟩ = some (.int .i64 ((rd_T37 x3_2 x6_2).f0)) := (blk_cell BK170.out 0).trans rfl
                    have hcz46_1 : wr.cell? ⟨gb170, 1, none⟩ = some (.int .u64 ((rd_T37 x3_2 x6_2).f1)) := (blk_cell BK170.out 1).trans rfl
                    have hcz46_2 : wr.cell? ⟨gb170, 2, none⟩ = some (.int .i64 ((rd_T37 x3_2 x6_2).f2)) := (blk_cell BK170.out 2).trans rfl
                    have hcz46_3 : wr.cell? ⟨gb170, 3, none⟩ = some (.int .i64 ((rd_T37 x3_2 x6_2).f3)) := (blk_cell BK170.out 3).trans rfl
                    have hfz46_0 := blk_frozen BK170.out 0
                    have hfz46_1 := blk_frozen BK170.out 1
                    have hfz46_2 := blk_frozen BK170.out 2
                    have hfz46_3 := blk_frozen BK170.out 3
                    have p41 : 0 ≤ (x8_3 : Int) := of_decide_eq_true qdm2_2
                    have q41 : (x8_3 : Int) < ((x5_2.length : Int) : Int) := of_decide_eq_true qdm2_2
                    obtain ⟨go41, co41, eo41, gb41, gl41, cl41, HG41⟩ := Kd.R_form HO_5.out (by omega)
                    (first | cases eo41 | (injection eo41 with ea_ en_ ec_; (first | subst ea_ | (injection ea_ with ea_; subst ea_)); subst ec_; clear en_))
                    have GB41 := Aside0.mk gb41
                    have GG41 := Aside0.mk HG41
                    clear gb41 gl41 HG41
                    obtain ⟨ce41, hcl41, hM41, hcc41, hfr41⟩ := Kd.R_elem HO_5.out z37 (x8_3 : Int) p41 q41
                    obtain rfl := k37_openM hM41
                    have hx41_0 : wr.cell? ⟨go41, (x8_3 : Int).toNat * 4, none⟩ = some (.int .i64 ((rd_T37 x5_2 x8_3).f0)) := hcc41 0 _ rfl
                    have hx41_1 : wr.cell? ⟨go41, (x8_3 : Int).toNat * 4 + 1, none⟩ = some (.int .u64 ((rd_T37 x5_2 x8_3).f1)) := hcc41 1 _ rfl
                    have hx41_2 : wr.cell? ⟨go41, (x8_3 : Int).toNat * 4 + 2, none⟩ = some (.int .i64 ((rd_T37 x5_2 x8_3).f2)) := hcc41 2 _ rfl
                    have hx41_3 : wr.cell? ⟨go41, (x8_3 : Int).toNat * 4 + 3, none⟩ = some (.int .i64 ((rd_T37 x5_2 x8_3).f3)) := hcc41 3 _ rfl
                    have hf41_0 : wr.frozen? ⟨go41, (x8_3 : Int).toNat * 4, none⟩ = false := hfr41 0
                    have hf41_1 : wr.frozen? ⟨go41, (x8_3 : Int).toNat * 4 + 1, none⟩ = false := hfr41 1
                    have hf41_2 : wr.frozen? ⟨go41, (x8_3 : Int).toNat * 4 + 2, none⟩ = false := hfr41 2
                    have hf41_3 : wr.frozen? ⟨go41, (x8_3 : Int).toNat * 4 + 3, none⟩ = false := hfr41 3
                    clear hcl41 hcc41 hfr41 hM41
                    replace p41 := eq_true p41
                    replace q41 := eq_true q41
                    have HX47 := Aside0.mk (show Kd.R k37 37 wr w.heap.size (fun k_ => some k_ ≠ (.slice (some ad169) x3_2.length co17 : Value).ownBlock ∧ k_ ≠ gb170) (.slice (some ⟨go41, 0, none⟩) x5_2.length co45) x5_2 from (qdm2_1 HO_5))
                    obtain ⟨ce47, hcl47, hM47, hcc47, hfr47⟩ := Kd.R_elem HX47.out z37 (x8_3 : Int) (of_decide_eq_true qdm2_2) (by have h_ : (x8_3 : Int) < ((x5_2.length : Int) : Int) := of_decide_eq_true qdm2_2; first | exact h_ | (have e_ := (Kd.R_reads' HO_5.out).1; omega) | simpa using h_)
                    obtain rfl := k37_openM hM47
                    have HP47 := Kd.R_seg HX47.out (x8_3 : Int) (of_decide_eq_true qdm2_2) (by have h_ : (x8_3 : Int) < ((x5_2.length : Int) : Int) := of_decide_eq_true qdm2_2; first | exact h_ | (have e_ := (Kd.R_reads' HO_5.out).1; omega) | simpa using h_) (seg := [.int .i64 ((rd_T37 x3_2 x6_2).f3)]) (j := 3) hcl47 hcc47 (show 4 ≤ 4 from by decide) (x' := (⟨(rd_T37 x5_2 x8_3).f0, (rd_T37 x5_2 x8_3).f1, (rd_T37 x5_2 x8_3).f2, ((rd_T37 x3_2 x6_2).f3)⟩ : S37)) (k37_mkM _ _ _ (⟨(rd_T37 x5_2 x8_3).f0, (rd_T37 x5_2 x8_3).f1, (rd_T37 x5_2 x8_3).f2, ((rd_T37 x3_2 x6_2).f3)⟩ : S37) ) (fun _ hk => hk)
                    have hx47_3 := hcc47 3 _ rfl
                    (try simp only [show (k37).sz = 4 from rfl, Nat.mul_one, Nat.add_zero] at hx47_3)
                    have hf47_3 := hfr47 3
                    (try simp only [show (k37).sz = 4 from rfl, Nat.mul_one, Nat.add_zero] at hf47_3)
                    clear hcl47 hcc47 hfr47 hM47
                    go_wp2_with (first | ((with_reducible refine gate_store (t := 2) (p := 76) rfl ?_); refine store_event (t := 2) (p := 76) (v := ?vo_w48) (w1 := (wr.setCell ⟨go41, (x8_3 : Int).toNat * 4 + 3, none⟩ (.int .i64 ((rd_T37 x3_2 x6_2).f3)))) ?hg ?ho ?hn ?hr ?_; (case ho => rfl); (case hg => rfl); (case hn => rfl); (case hr => exact (by first | (go_simp; done) | (go_simp; rfl))); intro w48 hw; have hg : wr.grownBy w48 (some go41) := (by rw [hw]; exact HP47.2); have hp_ : Kd.R k37 37 w48 w.heap.size (fun k_ => some k_ ≠ (.slice (some ad169) x3_2.length co17 : Value).ownBlock ∧ k_ ≠ gb170) (.slice (some ⟨go41, 0, none⟩) x5_2.length co45) y173 := (by rw [hw, Ny173.out]; exact HP47.1); clear HP47; have n0_ := Aside0.mk (Kd.R_after (v := (.slice (some ⟨go41, 0, none⟩) x5_2.length co45)) (v1 := (.slice (some ⟨go41, 0, none⟩) x5_2.length co45)) (ok := (fun k_ => k_ ≠ gb170)) (by (with_reducible repeat (first | apply Kd.R_alloc | apply Kd.R_drewN | apply Kd.R_drew)); exact Kd.R_mono HO_3.out (fun _ hk => ⟨hk.2, hk.1⟩)) hg (.inl rfl)); have n1_ := Aside0.mk (Kd.R_over' (v := (.slice (some ⟨go41, 0, none⟩) x5_2.length co45)) (qdm2_1 HO_4) (Kd.R_typed HO_5.out) (by decide) hg); have n2_ := Aside0.mk (hp_); have n3_ := Aside0.mk (blk_grown (g := gb170) (o := .cells #[.int .i64 ((rd_T37 x3_2 x6_2).f0), .int .u64 ((rd_T37 x3_2 x6_2).f1), .int .i64 ((rd_T37 x3_2 x6_2).f2), .int .i64 ((rd_T37 x3_2 x6_2).f3)] 37 (0, 0)) (qdm2_5 BK170) hg (Kd.R_away HO_5.out (fun _ hk => hk.2))); have n4_ := Aside0.mk ((by rw [hw]; exact below_set (HB.out) GB41.out : Below w.heap.size w w48)); clear HO_3; clear HO_4; clear HO_5; clear BK170; clear HB; have HO_3 := n0_; have HO_4 := n1_; have HO_5 := n2_; have BK170 := n3_; have HB := n4_; clear n0_ n1_ n2_ n3_ n4_; clear hg hw hp_; have p174 : 0 ≤ (x6_2 : Int) := of_decide_eq_true qdm2_2; have q174 : x6_2 < (t163.length : Int) := of_decide_eq_true qdm2_2; obtain ⟨ad174, e174, hx174_0⟩ := Kd.at_int (Kd.R_reads' HO_4.out).2.2 x6_2 p174 q174; cases e174; replace p174 := eq_true p174; replace q174 := eq_true q174))
                    (try simp only [← hl3_2])
                    go_roundg k3
                    case measure => have := HJ4.out; have := HK2.out; have := HK3.out; omega
                    case rel => exact ⟨(x3_2), (y173), (wrap64 (x6_2 + 1)), qdm2_6, H', ⟨by have := HJ4.out; have := HK2.out; have := HK3.out; omega⟩, ⟨by (try simp only [hl3_2]); (with_reducible repeat (first | apply Kd.R_alloc | apply Kd.R_drewN | apply Kd.R_drew)); exact Kd.R_mono HO_3.out (fun _ hk => hk.2)⟩, ⟨by (try simp only [hl3_2]); (with_reducible repeat (first | apply Kd.R_alloc | apply Kd.R_drewN | apply Kd.R_drew)); exact HO_4.out⟩, ⟨by (try simp only [hl3_2]); (with_reducible repeat (first | apply Kd.R_alloc | apply Kd.R_drewN | apply Kd.R_drew)); exact Kd.R_mono HO_5.out (fun _ hk => hk.1)⟩, ⟨by repeat (first | (with_reducible first | exact HB.out | apply below_alloc | apply pw_below_drewN | apply below_drew1 | refine below_set ?_ GE170.out) | exact HB.out)⟩⟩
                   ·rw [if_neg c44] at H
                    exact absurd H (by simp)
                  ·rw [if_neg c43] at H
                   exact absurd H (by simp)
                 ·rw [if_neg c42] at H
                  exact absurd H (by simp)
                ·rw [if_neg c40] at H
                 exact absurd H (by simp)
               ·rw [if_neg c39] at H
                exact absurd H (by simp)
              ·rw [if_neg c38] at H
               have c38b0 : decide (0 ≤ x8_3) = false := decide_eq_false c38
               clear c38
               by_cases c49 : x5_2.length < 4398046511104
               ·rw [if_pos c49] at H
                have LMc49 := Aside0.mk c49
                clear c49
                obtain ⟨y175, hy175⟩ : ∃ y_ : List (S37), y_ = (x5_2 ++ [(⟨((rd_T37 x3_2 x6_2).f0), ((rd_T37 x3_2 x6_2).f1), ((rd_T37 x3_2 x6_2).f2), ((rd_T37 x3_2 x6_2).f3)⟩ : S37)]) := ⟨_, rfl⟩
                replace H : (if 0 ≤ x6_2 then (if x6_2 < (t163.length : Int) then (if (rd t163 x6_2) = 1 then (laws_FnDictMap.l0 k3 x3_2 t163 y175 (wrap64 (x6_2 + 1))) else (none)) else (none)) else (none)) = some r := by first | (rw [hy175]; with_reducible exact H) | (have H2_ := (Option.bind_some _ _).symm.trans H; rw [hy175]; with_reducible exact H2_) | (have H2_ := (Option.bind_some _ _).symm.trans H; with_reducible exact H2_) | with_reducible exact H | (rw [hy175]; exact H) | exact H
                have Ny175 := Aside0.mk hy175
                clear hy175
                by_cases c50 : 0 ≤ x6_2
                ·rw [if_pos c50] at H
                 have c50b0 : decide (0 ≤ x6_2) = true := decide_eq_true c50
                 clear c50
                 by_cases c51 : x6_2 < (t163.length : Int)
                 ·rw [if_pos c51] at H
                  have c51b0 : decide (x6_2 < (t163.length : Int)) = true := decide_eq_true c51
                  (try simp only [hl3_2] at c51b0)
                  clear c51
                  by_cases c52 : (rd t163 x6_2) = 1
                  ·rw [if_pos c52] at H
                   have c52b0 : ((rd t163 x6_2) == 1) = true := beq_iff_eq.mpr c52
                   have c52b1 : ((rd t163 x6_2) != 1) = false := bne_eq_false_iff_eq.mpr c52
                   clear c52
                   have H' := Aside0.mk H
                   clear H
                   obtain ⟨Ao53, co53, eo53⟩ := Kd.R_slice HO_5.out
                   subst eo53
                   have hcz54_0 : wr.cell? ⟨gb170, 0, none⟩ = some (.int .i64 ((rd_T37 x3_2 x6_2).f0)) := (blk_cell BK170.out 0).trans rfl
                   have hcz54_1 : wr.cell? ⟨gb170, 1, none⟩ = some (.int .u64 ((rd_T37 x3_2 x6_2).f1)) := (blk_cell BK170.out 1).trans rfl
                   have hcz54_2 : wr.cell? ⟨gb170, 2, none⟩ = some (.int .i64 ((rd_T37 x3_2 x6_2).f2)) := (blk_cell BK170.out 2).trans rfl
                   have hcz54_3 : wr.cell? ⟨gb170, 3, none⟩ = some (.int .i64 ((rd_T37 x3_2 x6_2).f3)) := (blk_cell BK170.out 3).trans rfl
                   have hfz54_0 := blk_frozen BK170.out 0
                   have hfz54_1 := blk_frozen BK170.out 1
                   have hfz54_2 := blk_frozen BK170.out 2
                   have hfz54_3 := blk_frozen BK170.out 3
                   go_wp2_with (first | ((with_reducible refine gate_builtin (b := .append) (xs := #[.tmp 77, .tmp 79]) rfl ?_); at_builtin; refine Kd.R_append k37 (w0 := w) w.heap.size rfl (.tmp 77) (.tmp 79) 32 37 (.agg #[(.int .i64 0), (.int .u64 0), (.int .i64 0), (.int .i64 0)]) 32 rfl Try.underlying32 info37 rfl (by decide) (by omega) (.slice Ao53 x5_2.length co53) x5_2 (⟨((rd_T37 x3_2 x6_2).f0), ((rd_T37 x3_2 x6_2).f1), ((rd_T37 x3_2 x6_2).f2), ((rd_T37 x3_2 x6_2).f3)⟩ : S37) [.int .i64 ((rd_T37 x3_2 x6_2).f0), .int .u64 ((rd_T37 x3_2 x6_2).f1), .int .i64 ((rd_T37 x3_2 x6_2).f2), .int .i64 ((rd_T37 x3_2 x6_2).f3)] (fun k_ => some k_ ≠ (.slice (some ad169) x3_2.length co17 : Value).ownBlock ∧ k_ ≠ gb170) (fun _ => False) rfl rfl ?aP (fun _ hk => hk.elim) ?aF ?aO ?aB ?aS ?aL ?_; (case aP => exact k37_mkM _ _ _ (⟨((rd_T37 x3_2 x6_2).f0), ((rd_T37 x3_2 x6_2).f1), ((rd_T37 x3_2 x6_2).f2), ((rd_T37 x3_2 x6_2).f3)⟩ : S37)); (case aB => exact (qdm2_4 HB GE170)); (case aF => exact (fun k_ hk => ⟨Kd.fresh' (Kd.R_lt (qdm2_1 HO_3)) k_ hk, Kd.freshB (g := gb170) (o := .cells #[.int .i64 ((rd_T37 x3_2 x6_2).f0), .int .u64 ((rd_T37 x3_2 x6_2).f1), .int .i64 ((rd_T37 x3_2 x6_2).f2), .int .i64 ((rd_T37 x3_2 x6_2).f3)] 37 (0, 0)) (qdm2_5 BK170) k_ hk⟩)); (case aO => exact (qdm2_1 HO_5)); (case aS => exact (below_size (qdm2_4 HB GE170))); (case aL => have := LMc49.out; omega); intro v176 w55 ho hb hg hat; rw [← Ny175.out] at ho; have n0_ := Aside0.mk (Kd.R_after (ok := (fun k_ => k_ ≠ gb170)) (by (with_reducible repeat (first | apply Kd.R_alloc | apply Kd.R_drewN | apply Kd.R_drew)); exact Kd.R_mono HO_3.out (fun _ hk => ⟨hk.2, hk.1⟩)) hg hat); have n1_ := Aside0.mk (Kd.R_over' (qdm2_1 HO_4) (Kd.R_typed (qdm2_1 HO_5)) (by decide) hg); have n2_ := Aside0.mk (blk_grown (g := gb170) (o := .cells #[.int .i64 ((rd_T37 x3_2 x6_2).f0), .int .u64 ((rd_T37 x3_2 x6_2).f1), .int .i64 ((rd_T37 x3_2 x6_2).f2), .int .i64 ((rd_T37 x3_2 x6_2).f3)] 37 (0, 0)) (qdm2_5 BK170) hg (Kd.R_away HO_5.out (fun _ hk => hk.2))); have n3_ := Aside0.mk (hb); have n4_ := Aside0.mk (ho); clear HO_3; clear HO_4; clear BK170; clear HB; clear HO_5; have HO_3 := n0_; have HO_4 := n1_; have BK170 := n2_; have HB := n3_; have HO177 := n4_; clear n0_ n1_ n2_ n3_ n4_; clear ho hb hg hat; have p178 : 0 ≤ (x6_2 : Int) := of_decide_eq_true qdm2_2; have q178 : x6_2 < (t163.length : Int) := of_decide_eq_true qdm2_2; obtain ⟨ad178, e178, hx178_0⟩ := Kd.at_int (Kd.R_reads' HO_4.out).2.2 x6_2 p178 q178; cases e178; replace p178 := eq_true p178; replace q178 := eq_true q178))
                   (try simp only [← hl3_2])
                   go_roundg k3
                   case measure => have := HJ4.out; have := HK2.out; have := HK3.out; omega
                   case rel => exact ⟨(x3_2), (y175), (wrap64 (x6_2 + 1)), qdm2_6, H', ⟨by have := HJ4.out; have := HK2.out; have := HK3.out; omega⟩, ⟨by (try simp only [hl3_2]); (with_reducible repeat (first | apply Kd.R_alloc | apply Kd.R_drewN | apply Kd.R_drew)); exact Kd.R_mono HO_3.out (fun _ hk => hk.2)⟩, ⟨by (try simp only [hl3_2]); (with_reducible repeat (first | apply Kd.R_alloc | apply Kd.R_drewN | apply Kd.R_drew)); exact HO_4.out⟩, ⟨by (try simp only [hl3_2]); (with_reducible repeat (first | apply Kd.R_alloc | apply Kd.R_drewN | apply Kd.R_drew)); exact Kd.R_mono HO177.out (fun _ hk => hk.1)⟩, ⟨by repeat (first | (with_reducible first | exact HB.out | apply below_alloc | apply pw_below_drewN | apply below_drew1 | refine below_set ?_ GE170.out) | exact HB.out)⟩⟩
                  ·rw [if_neg c52] at H
                   exact absurd H (by simp)
                 ·rw [if_neg c51] at H
                  exact absurd H (by simp)
                ·rw [if_neg c50] at H
                 exact absurd H (by simp)
               ·rw [if_neg c49] at H
                exact absurd H (by simp)
             ·rw [if_neg c37] at H
              have c37b0 : (((rd_T37 x3_2 x6_2).f0) == 1) = false := beq_eq_false_iff_ne.mpr c37
              have c37b1 : (((rd_T37 x3_2 x6_2).f0) != 1) = true := bne_iff_ne.mpr c37
              by_cases c56 : ((rd_T37 x3_2 x6_2).f0) = 2
              ·rw [if_pos c56] at H
               have c56b0 : (((rd_T37 x3_2 x6_2).f0) == 2) = true := beq_iff_eq.mpr c56
               have c56b1 : (((rd_T37 x3_2 x6_2).f0) != 2) = false := bne_eq_false_iff_eq.mpr c56
               clear c56
               by_cases c57 : x8_3 ≥ 0
               ·rw [if_pos c57] at H
                have c57b0 : decide (0 ≤ x8_3) = true := decide_eq_true c57
                clear c57
                by_cases c58 : 0 ≤ x8_3
                ·rw [if_pos c58] at H
                 have c58b0 : decide (0 ≤ x8_3) = true := decide_eq_true c58
                 clear c58
                 by_cases c59 : x8_3 < (x5_2.length : Int)
                 ·rw [if_pos c59] at H
                  have c59b0 : decide (x8_3 < (x5_2.length : Int)) = true := decide_eq_true c59
                  (try simp only [hl3_2] at c59b0)
                  clear c59
                  by_cases c60 : 0 ≤ x6_2
                  ·rw [if_pos c60] at H
                   have c60b0 : decide (0 ≤ x6_2) = true := decide_eq_true c60
                   clear c60
                   by_cases c61 : x6_2 < (t163.length : Int)
                   ·rw [if_pos c61] at H
                    have c61b0 : decide (x6_2 < (t163.length : Int)) = true := decide_eq_true c61
                    (try simp only [hl3_2] at c61b0)
                    clear c61
                    by_cases c62 : (rd t163 x6_2) = ((rd_T37 x5_2 x8_3).f3)
                    ·rw [if_pos c62] at H
                     have c62b0 : ((rd t163 x6_2) == ((rd_T37 x5_2 x8_3).f3)) = true := beq_iff_eq.mpr c62
                     have c62b1 : ((rd t163 x6_2) != ((rd_T37 x5_2 x8_3).f3)) = false := bne_eq_false_iff_eq.mpr c62
                     clear c62
                     have H' := Aside0.mk H
                     clear H
                     obtain ⟨Ao63, co63, eo63⟩ := Kd.R_slice HO_5.out
                     subst eo63
                     have hcz64_0 : wr.cell? ⟨gb170, 0, none⟩ = some (.int .i64 ((rd_T37 x3_2 x6_2).f0)) := (blk_cell BK170.out 0).trans rfl
                     have hcz64_1 : wr.cell? ⟨gb170, 1, none⟩ = some (.int .u64 ((rd_T37 x3_2 x6_2).f1)) := (blk_cell BK170.out 1).trans rfl
                     have hcz64_2 : wr.cell? ⟨gb170, 2, none⟩ = some (.int .i64 ((rd_T37 x3_2 x6_2).f2)) := (blk_cell BK170.out 2).trans rfl
                     have hcz64_3 : wr.cell? ⟨gb170, 3, none⟩ = some (.int .i64 ((rd_T37 x3_2 x6_2).f3)) := (blk_cell BK170.out 3).trans rfl
                     have hfz64_0 := blk_frozen BK170.out 0
                     have hfz64_1 := blk_frozen BK170.out 1
                     have hfz64_2 := blk_frozen BK170.out 2
                     have hfz64_3 := blk_frozen BK170.out 3
                     have p179 : 0 ≤ (x8_3 : Int) := of_decide_eq_true qdm2_2
                     have q179 : x8_3 < (x5_2.length : Int) := of_decide_eq_true qdm2_2
                     obtain ⟨ad179, e179, hx179_0, hx179_1, hx179_2, hx179_3⟩ := at_T37 (Kd.R_reads' HO_5.out).2.2 x8_3 p179 q179
                     cases e179
                     replace p179 := eq_true p179
                     replace q179 := eq_true q179
                     have p180 : 0 ≤ (x6_2 : Int) := of_decide_eq_true qdm2_2
                     have q180 : x6_2 < (t163.length : Int) := of_decide_eq_true qdm2_2
                     obtain ⟨ad180, e180, hx180_0⟩ := Kd.at_int (Kd.R_reads' HO_4.out).2.2 x6_2 p180 q180
                     cases e180
                     replace p180 := eq_true p180
                     replace q180 := eq_true q180
                     go_wp2
                     (try simp only [← hl3_2])
                     go_roundg k3
                     case measure => have := HJ4.out; have := HK2.out; have := HK3.out; omega
                     case rel => exact ⟨(x3_2), (x5_2), (wrap64 (x6_2 + 1)), qdm2_6, H', ⟨by have := HJ4.out; have := HK2.out; have := HK3.out; omega⟩, ⟨by (try simp only [hl3_2]); (with_reducible repeat (first | apply Kd.R_alloc | apply Kd.R_drewN | apply Kd.R_drew)); exact Kd.R_mono HO_3.out (fun _ hk => hk.1)⟩, ⟨by (try simp only [hl3_2]); (with_reducible repeat (first | apply Kd.R_alloc | apply Kd.R_drewN | apply Kd.R_drew)); exact HO_4.out⟩, ⟨by (try simp only [hl3_2]); (with_reducible repeat (first | apply Kd.R_alloc | apply Kd.R_drewN | apply Kd.R_drew)); exact Kd.R_mono HO_5.out (fun _ hk => hk.1)⟩, ⟨by repeat (first | (with_reducible first | exact HB.out | apply below_alloc | apply pw_below_drewN | apply below_drew1 | refine below_set ?_ GE170.out) | exact HB.out)⟩⟩
                    ·rw [if_neg c62] at H
                     exact absurd H (by simp)
                   ·rw [if_neg c61] at H
                    exact absurd H (by simp)
                  ·rw [if_neg c60] at H
                   exact absurd H (by simp)
                 ·rw [if_neg c59] at H
                  exact absurd H (by simp)
                ·rw [if_neg c58] at H
                 exact absurd H (by simp)
               ·rw [if_neg c57] at H
                have c57b0 : decide (0 ≤ x8_3) = false := decide_eq_false c57
                clear c57
                by_cases c65 : 0 ≤ x6_2
                ·rw [if_pos c65] at H
                 have c65b0 : decide (0 ≤ x6_2) = true := decide_eq_true c65
                 clear c65
                 by_cases c66 : x6_2 < (t163.length : Int)
                 ·rw [if_pos c66] at H
                  have c66b0 : decide (x6_2 < (t163.length : Int)) = true := decide_eq_true c66
                  (try simp only [hl3_2] at c66b0)
                  clear c66
                  by_cases c67 : (rd t163 x6_2) = (-1)
                  ·rw [if_pos c67] at H
                   have c67b0 : ((rd t163 x6_2) == (-1)) = true := beq_iff_eq.mpr c67
                   have c67b1 : ((rd t163 x6_2) != (-1)) = false := bne_eq_false_iff_eq.mpr c67
                   clear c67
                   have H' := Aside0.mk H
                   clear H
                   obtain ⟨Ao68, co68, eo68⟩ := Kd.R_slice HO_5.out
                   subst eo68
                   have hcz69_0 : wr.cell? ⟨gb170, 0, none⟩ = some (.int .i64 ((rd_T37 x3_2 x6_2).f0)) := (blk_cell BK170.out 0).trans rfl
                   have hcz69_1 : wr.cell? ⟨gb170, 1, none⟩ = some (.int .u64 ((rd_T37 x3_2 x6_2).f1)) := (blk_cell BK170.out 1).trans rfl
                   have hcz69_2 : wr.cell? ⟨gb170, 2, none⟩ = some (.int .i64 ((rd_T37 x3_2 x6_2).f2)) := (blk_cell BK170.out 2).trans rfl
                   have hcz69_3 : wr.cell? ⟨gb170, 3, none⟩ = some (.int .i64 ((rd_T37 x3_2 x6_2).f3)) := (blk_cell BK170.out 3).trans rfl
                   have hfz69_0 := blk_frozen BK170.out 0
                   have hfz69_1 := blk_frozen BK170.out 1
                   have hfz69_2 := blk_frozen BK170.out 2
                   have hfz69_3 := blk_frozen BK170.out 3
                   have p181 : 0 ≤ (x6_2 : Int) := of_decide_eq_true qdm2_2
                   have q181 : x6_2 < (t163.length : Int) := of_decide_eq_true qdm2_2
                   obtain ⟨ad181, e181, hx181_0⟩ := Kd.at_int (Kd.R_reads' HO_4.out).2.2 x6_2 p181 q181
                   cases e181
                   replace p181 := eq_true p181
                   replace q181 := eq_true q181
                   go_wp2
                   (try simp only [← hl3_2])
                   go_roundg k3
                   case measure => have := HJ4.out; have := HK2.out; have := HK3.out; omega
                   case rel => exact ⟨(x3_2), (x5_2), (wrap64 (x6_2 + 1)), qdm2_6, H', ⟨by have := HJ4.out; have := HK2.out; have := HK3.out; omega⟩, ⟨by (try simp only [hl3_2]); (with_reducible repeat (first | apply Kd.R_alloc | apply Kd.R_drewN | apply Kd.R_drew)); exact Kd.R_mono HO_3.out (fun _ hk => hk.1)⟩, ⟨by (try simp only [hl3_2]); (with_reducible repeat (first | apply Kd.R_alloc | apply Kd.R_drewN | apply Kd.R_drew)); exact HO_4.out⟩, ⟨by (try simp only [hl3_2]); (with_reducible repeat (first | apply Kd.R_alloc | apply Kd.R_drewN | apply Kd.R_drew)); exact Kd.R_mono HO_5.out (fun _ hk => hk.1)⟩, ⟨by repeat (first | (with_reducible first | exact HB.out | apply below_alloc | apply pw_below_drewN | apply below_drew1 | refine below_set ?_ GE170.out) | exact HB.out)⟩⟩
                  ·rw [if_neg c67] at H
                   exact absurd H (by simp)
                 ·rw [if_neg c66] at H
                  exact absurd H (by simp)
                ·rw [if_neg c65] at H
                 exact absurd H (by simp)
              ·rw [if_neg c56] at H
               have c56b0 : (((rd_T37 x3_2 x6_2).f0) == 2) = false := beq_eq_false_iff_ne.mpr c56
               have c56b1 : (((rd_T37 x3_2 x6_2).f0) != 2) = true := bne_iff_ne.mpr c56
               by_cases c70 : ((rd_T37 x3_2 x6_2).f0) = 3
               ·rw [if_pos c70] at H
                have c70b0 : (((rd_T37 x3_2 x6_2).f0) == 3) = true := beq_iff_eq.mpr c70
                have c70b1 : (((rd_T37 x3_2 x6_2).f0) != 3) = false := bne_eq_false_iff_eq.mpr c70
                clear c70
                by_cases c71 : x8_3 ≥ 0
                ·rw [if_pos c71] at H
                 have c71b0 : decide (0 ≤ x8_3) = true := decide_eq_true c71
                 clear c71
                 obtain ⟨y182, hy182⟩ : ∃ y_ : List (S37), y_ = (([] : List (S37))) := ⟨_, rfl⟩
                 replace H : (if 0 ≤ x8_3 then (if x8_3 ≤ (x5_2.length : Int) then ((some (x5_2.take (x8_3 : Int).toNat : List (S37))).bind fun y185 => (if y182.length + y185.length < 4398046511104 then ((some (y182 ++ y185 : List (S37))).bind fun y189 => (if 0 ≤ (wrap64 (x8_3 + 1)) then (if (wrap64 (x8_3 + 1)) ≤ (x5_2.length : Int) then ((some (x5_2.drop ((wrap64 (x8_3 + 1)) : Int).toNat : List (S37))).bind fun y192 => (if y189.length + y192.length < 4398046511104 then (if 0 ≤ x6_2 then (if x6_2 < (t163.length : Int) then (if (rd t163 x6_2) = 1 then (laws_FnDictMap.l0 k3 x3_2 t163 (y189 ++ y192) (wrap64 (x6_2 + 1))) else (none)) else (none)) else (none)) else (none))) else (none)) else (none))) else (none))) else (none)) else (none)) = some r := by first | (rw [hy182]; with_reducible exact H) | (have H2_ := (Option.bind_some _ _).symm.trans H; rw [hy182]; with_reducible exact H2_) | (have H2_ := (Option.bind_some _ _).symm.trans H; with_reducible exact H2_) | with_reducible exact H | (rw [hy182]; exact H) | exact H
                 have Ny182 := Aside0.mk hy182
                 clear hy182
                 by_cases c72 : 0 ≤ x8_3
                 ·rw [if_pos c72] at H
                  have c72b0 := eq_true c72
                  have c72b1 : decide (0 ≤ x8_3) = true := decide_eq_true c72
                  clear c72
                  by_cases c73 : x8_3 ≤ (x5_2.length : Int)
                  ·rw [if_pos c73] at H
                   have c73b0 := eq_true c73
                   have c73b1 : decide (x8_3 ≤ (x5_2.length : Int)) = true := decide_eq_true c73
                   (try simp only [hl3_2] at c73b1)
                   clear c73
                   obtain ⟨y185, hy185⟩ : ∃ y_ : List (S37), y_ = (x5_2.take (x8_3 : Int).toNat) := ⟨_, rfl⟩
                   replace H : (if y182.length + y185.length < 4398046511104 then ((some (y182 ++ y185 : List (S37))).bind fun y189 => (if 0 ≤ (wrap64 (x8_3 + 1)) then (if (wrap64 (x8_3 + 1)) ≤ (x5_2.length : Int) then ((some (x5_2.drop ((wrap64 (x8_3 + 1)) : Int).toNat : List (S37))).bind fun y192 => (if y189.length + y192.length < 4398046511104 then (if 0 ≤ x6_2 then (if x6_2 < (t163.length : Int) then (if (rd t163 x6_2) = 1 then (laws_FnDictMap.l0 k3 x3_2 t163 (y189 ++ y192) (wrap64 (x6_2 + 1))) else (none)) else (none)) else (none)) else (none))) else (none)) else (none))) else (none)) = some r := by first | (rw [hy185]; with_reducible exact H) | (have H2_ := (Option.bind_some _ _).symm.trans H; rw [hy185]; with_reducible exact H2_) | (have H2_ := (Option.bind_some _ _).symm.trans H; with_reducible exact H2_) | with_reducible exact H | (rw [hy185]; exact H) | exact H
                   have Ny185 := Aside0.mk hy185
                   clear hy185
                   by_cases c74 : y182.length + y185.length < 4398046511104
                   ·rw [if_pos c74] at H
                    have LMc74 := Aside0.mk c74
                    clear c74
                    obtain ⟨y189, hy189⟩ : ∃ y_ : List (S37), y_ = (y182 ++ y185) := ⟨_, rfl⟩
                    replace H : (if 0 ≤ (wrap64 (x8_3 + 1)) then (if (wrap64 (x8_3 + 1)) ≤ (x5_2.length : Int) then ((some (x5_2.drop ((wrap64 (x8_3 + 1)) : Int).toNat : List (S37))).bind fun y192 => (if y189.length + y192.length < 4398046511104 then (if 0 ≤ x6_2 then (if x6_2 < (t163.length : Int) then (if (rd t163 x6_2) = 1 then (laws_FnDictMap.l0 k3 x3_2 t163 (y189 ++ y192) (wrap64 (x6_2 + 1))) else (none)) else (none)) else (none)) else (none))) else (none)) else (none)) = some r := by first | (rw [hy189]; with_reducible exact H) | (have H2_ := (Option.bind_some _ _).symm.trans H; rw [hy189]; with_reducible exact H2_) | (have H2_ := (Option.bind_some _ _).symm.trans H; with_reducible exact H2_) | with_reducible exact H | (rw [hy189]; exact H) | exact H
                    have Ny189 := Aside0.mk hy189
                    clear hy189
                    obtain ⟨ji75, hji75⟩ : ∃ j_ : Int, (wrap64 (x8_3 + 1)) = j_ := ⟨_, rfl⟩
                    replace H : (if 0 ≤ (ji75) then (if (ji75) ≤ (x5_2.length : Int) then ((some (x5_2.drop ((ji75) : Int).toNat : List (S37))).bind fun y192 => (if y189.length + y192.length < 4398046511104 then (if 0 ≤ x6_2 then (if x6_2 < (t163.length : Int) then (if (rd t163 x6_2) = 1 then (laws_FnDictMap.l0 k3 x3_2 t163 (y189 ++ y192) (wrap64 (x6_2 + 1))) else (none)) else (none)) else (none)) else (none))) else (none)) else (none)) = some r := by first | (rw [hji75] at H; exact H) | (simp only [hji75] at H ⊢; exact H)
                    have hji75w : (IntKind.i64.wrap (x8_3 + 1)) = ji75 := (i64_w _).trans hji75
                    by_cases c76 : 0 ≤ (ji75)
                    ·rw [if_pos c76] at H
                     have c76b0 := eq_true c76
                     have c76b1 : decide (0 ≤ (ji75)) = true := decide_eq_true c76
                     clear c76
                     by_cases c77 : (ji75) ≤ (x5_2.length : Int)
                     ·rw [if_pos c77] at H
                      have c77b0 := eq_true c77
                      have c77b1 : decide ((ji75) ≤ (x5_2.length : Int)) = true := decide_eq_true c77
                      (try simp only [hl3_2] at c77b1)
                      clear c77
                      obtain ⟨y192, hy192⟩ : ∃ y_ : List (S37), y_ = (x5_2.drop ((ji75) : Int).toNat) := ⟨_, rfl⟩
                      replace H : (if y189.length + y192.length < 4398046511104 then (if 0 ≤ x6_2 then (if x6_2 < (t163.length : Int) then (if (rd t163 x6_2) = 1 then (laws_FnDictMap.l0 k3 x3_2 t163 (y189 ++ y192) (wrap64 (x6_2 + 1))) else (none)) else (none)) else (none)) else (none)) = some r := by first | (rw [hy192]; with_reducible exact H) | (have H2_ := (Option.bind_some _ _).symm.trans H; rw [hy192]; with_reducible exact H2_) | (have H2_ := (Option.bind_some _ _).symm.trans H; with_reducible exact H2_) | with_reducible exact H | (rw [hy192]; exact H) | exact H
                      have Ny192 := Aside0.mk hy192
                      clear hy192
                      by_cases c78 : y189.length + y192.length < 4398046511104
                      ·rw [if_pos c78] at H
                       have LMc78 := Aside0.mk c78
                       clear c78
                       obtain ⟨y196, hy196⟩ : ∃ y_ : List (S37), y_ = (y189 ++ y192) := ⟨_, rfl⟩
                       replace H : (if 0 ≤ x6_2 then (if x6_2 < (t163.length : Int) then (if (rd t163 x6_2) = 1 then (laws_FnDictMap.l0 k3 x3_2 t163 y196 (wrap64 (x6_2 + 1))) else (none)) else (none)) else (none)) = some r := by first | (rw [hy196]; with_reducible exact H) | (have H2_ := (Option.bind_some _ _).symm.trans H; rw [hy196]; with_reducible exact H2_) | (have H2_ := (Option.bind_some _ _).symm.trans H; with_reducible exact H2_) | with_reducible exact H | (rw [hy196]; exact H) | exact H
                       have Ny196 := Aside0.mk hy196
                       clear hy196
                       by_cases c79 : 0 ≤ x6_2
                       ·rw [if_pos c79] at H
                        have c79b0 : decide (0 ≤ x6_2) = true := decide_eq_true c79
                        clear c79
                        by_cases c80 : x6_2 < (t163.length : Int)
                        ·rw [if_pos c80] at H
                         have c80b0 : decide (x6_2 < (t163.length : Int)) = true := decide_eq_true c80
                         (try simp only [hl3_2] at c80b0)
                         clear c80
                         by_cases c81 : (rd t163 x6_2) = 1
                         ·rw [if_pos c81] at H
                          have c81b0 : ((rd t163 x6_2) == 1) = true := beq_iff_eq.mpr c81
                          have c81b1 : ((rd t163 x6_2) != 1) = false := bne_eq_false_iff_eq.mpr c81
                          clear c81
                          have H' := Aside0.mk H
                          clear H
                          obtain ⟨Ao82, co82, eo82⟩ := Kd.R_slice HO_5.out
                          subst eo82
                          have hcz83_0 : wr.cell? ⟨gb170, 0, none⟩ = some (.int .i64 ((rd_T37 x3_2 x6_2).f0)) := (blk_cell BK170.out 0).trans rfl
                          have hcz83_1 : wr.cell? ⟨gb170, 1, none⟩ = some (.int .u64 ((rd_T37 x3_2 x6_2).f1)) := (blk_cell BK170.out 1).trans rfl
                          have hcz83_2 : wr.cell? ⟨gb170, 2, none⟩ = some (.int .i64 ((rd_T37 x3_2 x6_2).f2)) := (blk_cell BK170.out 2).trans rfl
                          have hcz83_3 : wr.cell? ⟨gb170, 3, none⟩ = some (.int .i64 ((rd_T37 x3_2 x6_2).f3)) := (blk_cell BK170.out 3).trans rfl
                          have hfz83_0 := blk_frozen BK170.out 0
                          have hfz83_1 := blk_frozen BK170.out 1
                          have hfz83_2 := blk_frozen BK170.out 2
                          have hfz83_3 := blk_frozen BK170.out 3
                          try go_wp2
                          have n0_ := Aside0.mk (Kd.R_drew HO_3.out)
                          have n1_ := Aside0.mk (Kd.R_drew HO_4.out)
                          have n2_ := Aside0.mk (Kd.R_drew HO_5.out)
                          have n3_ := Aside0.mk (blk_drew BK170.out)
                          have n4_ := Aside0.mk (below_drew1 HB.out)
                          clear HO_3
                          clear HO_4
                          clear HO_5
                          clear BK170
                          clear HB
                          have HO_3 := n0_
                          have HO_4 := n1_
                          have HO_5 := n2_
                          have BK170 := n3_
                          have HB := n4_
                          clear n0_ n1_ n2_ n3_ n4_
                          have q85 : (x8_3 : Int) ≤ ((x5_2.length : Int) : Int) := of_decide_eq_true qdm2_2
                          obtain ⟨i085, hi085, _, hsz85, _⟩ := info_parts info37
                          have hroom85 : x5_2.length ≤ co82 := (Kd.R_reads' HO_5.out).2.1
                          have hC85 : Kd.C k37 _ Ao82 x5_2.length x5_2 := (Kd.R_reads' HO_5.out).2.2
                          have hcut85 := cut_to (P := Try.prog) 32 37 .i64 Try.underlying32 hi085 Ao82 x5_2.length co82 x8_3 (of_decide_eq_true qdm2_2) q85 hroom85
                          have hr85 := Kd.C_take (m := (x8_3 : Int).toNat) hC85 (by omega)
                          have hy85 : y185.length = (x8_3 : Int).toNat := (by rw [Ny185.out, List.length_take]; omega)
                          rw [← Ny185.out] at hr85
                          rw [← hy85] at hcut85
                          have HR188 := Aside0.mk hr85
                          have HC188 := Aside0.mk (show y185.length ≤ co82 from by omega)
                          clear hr85 hC85 hroom85 hi085 hsz85
                          have KY85 := Aside0.mk hy85
                          clear hy85
                          have KL85 := Aside0.mk (show (x8_3 : Int).toNat ≤ x5_2.length from by omega)
                          replace q85 := eq_true q85
                          have q86 : ((ji75) : Int) ≤ ((x5_2.length : Int) : Int) := of_decide_eq_true qdm2_2
                          obtain ⟨i086, hi086, _, hsz86, _⟩ := info_parts info37
                          have hroom86 : x5_2.length ≤ co82 := (Kd.R_reads' HO_5.out).2.1
                          have hC86 : Kd.C k37 _ Ao82 x5_2.length x5_2 := (Kd.R_reads' HO_5.out).2.2
                          have q086 : (0 : Int) ≤ ((ji75) : Int) := of_decide_eq_true qdm2_2
                          have hcut86 := cut_from (P := Try.prog) 32 37 .i64 Try.underlying32 hi086 4 hsz86 Ao82 x5_2.length co82 (ji75) q086 q86
                          have hr86 := Kd.C_drop (m := ((ji75) : Int).toNat) (c := co82) hC86 (by omega) hroom86
                          obtain ⟨A86, hA86⟩ : ∃ A1, A1 = (if co82 = ((ji75) : Int).toNat then Ao82 else (Ao82 : Option Addr).map (·.add (((ji75) : Int).toNat * 4))) := ⟨_, rfl⟩
                          obtain ⟨c86, hc86⟩ : ∃ c1, c1 = co82 - ((ji75) : Int).toNat := ⟨_, rfl⟩
                          have hy86 : y192.length = x5_2.length - ((ji75) : Int).toNat := (by rw [Ny192.out, List.length_drop] <;> omega)
                          rw [show (x5_2).drop ((ji75) : Int).toNat = y192 from Ny192.out.symm] at hr86
                          replace hr86 : Kd.C k37 _ A86 y192.length y192 := (by rw [hA86]; exact hr86)
                          rw [← hy86, ← hA86, ← hc86] at hcut86
                          have HR195 := Aside0.mk hr86
                          have HC195 := Aside0.mk (show y192.length ≤ c86 from by rw [hy86, hc86]; exact Nat.sub_le_sub_right hroom86 _)
                          clear hr86 hC86 hroom86 hi086 hsz86 hc86
                          have KY86 := Aside0.mk hy86
                          have KA86 := Aside0.mk hA86
                          clear hy86 hA86
                          have KL86 := Aside0.mk (show ((ji75) : Int).toNat ≤ x5_2.length from by omega)
                          replace q86 := eq_true q86
                          refine start_ (n := 11) (S := fun w' => True) (ds := []) #[false, false, false, false, false, false, false, false, false, false, false] qdm2_7 rfl rfl trivial (fun hHeld => ?_); refine with_tabW laws_FnDictMap.tab35 laws_FnDictMap.bits35 (fun HT_ HW_ => ?_)
                          generalize wr.drew = w84 at HO_3 HO_4 HO_5 BK170 HB HR188 HR195 hHeld ⊢
                          refine pure_ (i := 1) (N := some 95) (v := ?_) (a' := ?_) #[false, true, false, false, false, false, false, false, false, false, false] rfl rfl (any_of HT_.out qdm2_7) (fun _ _ _ h => h) (Or.inl ⟨by rfl, ?_⟩) ?_ ?_
                          rotate_left
                          ·intro w'
                           go_simp
                           with_reducible rfl
                          rotate_left
                          ·simp only [Act.put, List.setIfInBounds_toArray, List.set_cons_zero, List.set_cons_succ, i64_w, i32_w]
                           rfl
                          refine pure_ (i := 2) (N := some 96) (v := ?_) (a' := ?_) #[false, true, true, false, false, false, false, false, false, false, false] rfl rfl (any_of HT_.out qdm2_7) (fun _ _ _ h => h) (Or.inl ⟨by rfl, ?_⟩) ?_ ?_
                          rotate_left
                          ·intro w'
                           go_simp
                           with_reducible rfl
                          rotate_left
                          ·simp only [Act.put, List.setIfInBounds_toArray, List.set_cons_zero, List.set_cons_succ, i64_w, i32_w]
                           rfl
                          refine pure_ (i := 3) (N := some 97) (v := ?_) (a' := ?_) #[false, true, true, true, false, false, false, false, false, false, false] rfl rfl (any_of HT_.out qdm2_7) (fun _ _ _ h => h) (Or.inl ⟨by rfl, ?_⟩) ?_ ?_
                          rotate_left
                          ·intro w'
                           go_simp
                           with_reducible rfl
                          rotate_left
                          ·simp only [Act.put, List.setIfInBounds_toArray, List.set_cons_zero, List.set_cons_succ, i64_w, i32_w]
                           rfl
                          refine pure_ (i := 5) (N := some 99) (v := ?_) (a' := ?_) #[false, true, true, true, false, true, false, false, false, false, false] rfl rfl (any_of HT_.out qdm2_7) (fun _ _ _ h => h) (Or.inl ⟨by rfl, ?_⟩) ?_ ?_
                          rotate_left
                          ·intro w'
                           go_simp
                           with_reducible rfl
                          rotate_left
                          ·simp only [Act.put, List.setIfInBounds_toArray, List.set_cons_zero, List.set_cons_succ, i64_w, i32_w]
                           rfl
                          refine pure_ (i := 6) (N := some 100) (v := ?_) (a' := ?_) #[false, true, true, true, false, true, true, false, false, false, false] rfl rfl (any_of HT_.out qdm2_7) (fun _ _ _ h => h) (Or.inl ⟨by rfl, ?_⟩) ?_ ?_
                          rotate_left
                          ·intro w'
                           go_simp
                           with_reducible rfl
                          rotate_left
                          ·simp only [Act.put, List.setIfInBounds_toArray, List.set_cons_zero, List.set_cons_succ, i64_w, i32_w]
                           rfl
                          refine pure_ (i := 7) (N := some 101) (v := ?_) (a' := ?_) #[false, true, true, true, false, true, true, true, false, false, false] rfl rfl (any_of HT_.out qdm2_7) (fun _ _ _ h => h) (Or.inl ⟨by rfl, ?_⟩) ?_ ?_
                          rotate_left
                          ·intro w'
                           go_simp
                           with_reducible rfl
                          rotate_left
                          ·simp only [Act.put, List.setIfInBounds_toArray, List.set_cons_zero, List.set_cons_succ, i64_w, i32_w]
                           rfl
                          refine pure_ (i := 8) (N := some 102) (v := ?_) (a' := ?_) #[false, true, true, true, false, true, true, true, true, false, false] rfl rfl (any_of HT_.out qdm2_7) (fun _ _ _ h => h) (Or.inl ⟨by rfl, ?_⟩) ?_ ?_
                          rotate_left
                          ·intro w'
                           go_simp
                           with_reducible rfl
                          rotate_left
                          ·simp only [Act.put, List.setIfInBounds_toArray, List.set_cons_zero, List.set_cons_succ, i64_w, i32_w]
                           rfl
                          refine one_ (i := 0) (N := some 94) #[true, true, true, true, false, true, true, true, true, false, false] rfl rfl (one_of HT_.out qdm2_7) (by decide) (fun K hK => ?_)
                          refine Kd.R_lit_step k37 _ 37 ?hg (N := 94) ?hd (xs := ([] : List (S37))) (inner := []) (ok := fun _ => True) (okp := fun _ => True) ?hr ?hp (fun _ hk => hk) trivial (Below.refl _ _) (Nat.le_refl _) (by simp) ?_; (case hd => rfl); (case hg => rfl); (case hr => exact (by first | (go_simp; done) | (go_simp; rfl))); (case hp => exact (Reps.none _ _))
                          intro v183 w87 ho88 hb hg_ hnew_
                          clear hg_ hnew_
                          (first | rw [← Ny182.out] at ho88 | (simp only [Int.reduceToNat] at ho88; rw [← Ny182.out] at ho88))
                          have n0_ := Aside0.mk (Kd.R_elder' (qdm2_1 HO_3) (Kd.R_base ho88) hb)
                          have n1_ := Aside0.mk (Kd.R_below (qdm2_1 HO_4) hb)
                          have n2_ := Aside0.mk (Kd.R_elder' (qdm2_1 HO_5) (Kd.R_base ho88) hb)
                          have n3_ := Aside0.mk (Kd.R_lower (Kd.R_newB (Kd.R_new' (Kd.R_new' ho88 (Kd.R_lt (qdm2_1 HO_3))) (Kd.R_lt (qdm2_1 HO_5))) (g := gb170) (o := .cells #[.int .i64 ((rd_T37 x3_2 x6_2).f0), .int .u64 ((rd_T37 x3_2 x6_2).f1), .int .i64 ((rd_T37 x3_2 x6_2).f2), .int .i64 ((rd_T37 x3_2 x6_2).f3)] 37 (0, 0)) (qdm2_5 BK170)) (below_size (qdm2_4 HB GE170)))
                          have n4_ := Aside0.mk (blk_below (g := gb170) (o := .cells #[.int .i64 ((rd_T37 x3_2 x6_2).f0), .int .u64 ((rd_T37 x3_2 x6_2).f1), .int .i64 ((rd_T37 x3_2 x6_2).f2), .int .i64 ((rd_T37 x3_2 x6_2).f3)] 37 (0, 0)) (qdm2_5 BK170) hb)
                          have n5_ := Aside0.mk (Kd.C_below (qdm2_8 HR188) hb)
                          have n6_ := Aside0.mk (Kd.C_below (qdm2_8 HR195) hb)
                          have n7_ := Aside0.mk (below_step (qdm2_4 HB GE170) hb)
                          clear HO_3
                          clear HO_4
                          clear HO_5
                          clear BK170
                          clear HR188
                          clear HR195
                          clear HB
                          have HO_3 := n0_
                          have HO_4 := n1_
                          have HO_5 := n2_
                          have HO184 := n3_
                          have BK170 := n4_
                          have HR188 := n5_
                          have HR195 := n6_
                          have HB := n7_
                          clear n0_ n1_ n2_ n3_ n4_ n5_ n6_ n7_
                          clear hb ho88
                          refine hK.out _ _ trivial (fun hHeld => ?_)
                          clear hK K
                          refine norm_ (a' := ?_) ?_ ?_
                          rotate_left
                          ·show Act.put _ (some 94) _ = _
                           simp only [Act.put, List.setIfInBounds_toArray, List.set_cons_zero, List.set_cons_succ, i64_w, i32_w]
                           rfl
                          refine one_ (i := 4) (N := some 98) #[true, true, true, true, true, true, true, true, true, false, false] rfl rfl (one_of HT_.out qdm2_7) (by decide) (fun K hK => ?_)
                          refine Kd.R_append_rows_step k37 (w0 := w) w.heap.size (by rfl) (.tmp 94) (.tmp 97) 32 37 (.agg #[(.int .i64 0), (.int .u64 0), (.int .i64 0), (.int .i64 0)]) 32 rfl Try.underlying32 info37 rfl (by decide) (by omega) v183 y182 y185 _ _ _ (fun k_ => some k_ ≠ (.slice (some ad169) x3_2.length co17 : Value).ownBlock ∧ some k_ ≠ (.slice Ao82 x5_2.length co82 : Value).ownBlock ∧ k_ ≠ gb170) (fun _ => False) rfl rfl ?aO ?aR (fun _ _ h => h) (fun _ h => h.elim) ?aF ?aB ?aS ?aL ?_
                          (case aR => repeat (first | exact (qdm2_8 HR188) | (with_reducible refine Kd.C_alloc ?_ _) | (with_reducible refine Kd.C_drewN ?_ _) | (with_reducible refine Kd.C_drew ?_)))
                          (case aB => exact (qdm2_4 HB GE170))
                          (case aF => exact (fun k_ hk => ⟨Kd.fresh' (Kd.R_lt (qdm2_1 HO_3)) k_ hk, Kd.fresh' (Kd.R_lt (qdm2_1 HO_5)) k_ hk, Kd.freshB (g := gb170) (o := .cells #[.int .i64 ((rd_T37 x3_2 x6_2).f0), .int .u64 ((rd_T37 x3_2 x6_2).f1), .int .i64 ((rd_T37 x3_2 x6_2).f2), .int .i64 ((rd_T37 x3_2 x6_2).f3)] 37 (0, 0)) (qdm2_5 BK170) k_ hk⟩))
                          (case aO => exact (by (with_reducible repeat (first | apply Kd.R_alloc | apply Kd.R_drewN | apply Kd.R_drew)); exact Kd.R_mono HO184.out (fun _ hk => ⟨hk.1.1.2, ⟨hk.1.2, hk.2⟩⟩)))
                          (case aS => exact (below_size (qdm2_4 HB GE170)))
                          (case aL => have := LMc74.out; omega)
                          intro v190 w89 ho hb hg hat
                          rw [← Ny189.out] at ho
                          have n0_ := Aside0.mk (Kd.R_after (ok := (fun k_ => some k_ ≠ (.slice Ao82 x5_2.length co82 : Value).ownBlock ∧ k_ ≠ gb170)) (qdm2_1 HO_3) hg hat)
                          have n1_ := Aside0.mk (Kd.R_over' (qdm2_1 HO_4) (Kd.R_typed (qdm2_1 HO184)) (by decide) hg)
                          have n2_ := Aside0.mk (Kd.R_after (ok := (fun k_ => some k_ ≠ (.slice (some ad169) x3_2.length co17 : Value).ownBlock ∧ k_ ≠ gb170)) (qdm2_1 HO_5) hg hat)
                          have n3_ := Aside0.mk (blk_grown (g := gb170) (o := .cells #[.int .i64 ((rd_T37 x3_2 x6_2).f0), .int .u64 ((rd_T37 x3_2 x6_2).f1), .int .i64 ((rd_T37 x3_2 x6_2).f2), .int .i64 ((rd_T37 x3_2 x6_2).f3)] 37 (0, 0)) (qdm2_5 BK170) hg (Kd.R_away HO184.out (fun _ hk => hk.2)))
                          have n4_ := Aside0.mk (hb)
                          have n5_ := Aside0.mk ((show Kd.C k37 w89 Ao82 y185.length y185 from by rw [Ny185.out]; exact Kd.C_take (m := (x8_3 : Int).toNat) ((Kd.R_reads' (Kd.R_after (ok := (fun k_ => some k_ ≠ (.slice (some ad169) x3_2.length co17 : Value).ownBlock ∧ k_ ≠ gb170)) (qdm2_1 HO_5) hg hat)).2.2) KL85.out))
                          have n6_ := Aside0.mk ((show Kd.C k37 w89 A86 y192.length y192 from by rw [Ny192.out, KA86.out]; exact Kd.C_drop (m := ((ji75) : Int).toNat) (c := co82) ((Kd.R_reads' (Kd.R_after (ok := (fun k_ => some k_ ≠ (.slice (some ad169) x3_2.length co17 : Value).ownBlock ∧ k_ ≠ gb170)) (qdm2_1 HO_5) hg hat)).2.2) KL86.out ((Kd.R_reads' (Kd.R_after (ok := (fun k_ => some k_ ≠ (.slice (some ad169) x3_2.length co17 : Value).ownBlock ∧ k_ ≠ gb170)) (qdm2_1 HO_5) hg hat)).2.1)))
                          have n7_ := Aside0.mk (ho)
                          clear HO_3
                          clear HO_4
                          clear HO_5
                          clear BK170
                          clear HB
                          clear HR188
                          clear HR195
                          clear HO184
                          have HO_3 := n0_
                          have HO_4 := n1_
                          have HO_5 := n2_
                          have BK170 := n3_
                          have HB := n4_
                          have HR188 := n5_
                          have HR195 := n6_
                          have HO191 := n7_
                          clear n0_ n1_ n2_ n3_ n4_ n5_ n6_ n7_
                          clear ho hb hg hat
                          refine hK.out _ _ trivial (fun hHeld => ?_)
                          clear hK K
                          refine norm_ (a' := ?_) ?_ ?_
                          rotate_left
                          ·show Act.put _ (some 98) _ = _
                           simp only [Act.put, List.setIfInBounds_toArray, List.set_cons_zero, List.set_cons_succ, i64_w, i32_w]
                           rfl
                          refine one_ (i := 9) (N := some 103) #[true, true, true, true, true, true, true, true, true, true, false] rfl rfl (one_of HT_.out qdm2_7) (by decide) (fun K hK => ?_)
                          refine Kd.R_append_rows_step k37 (w0 := w) w.heap.size (by rfl) (.tmp 98) (.tmp 102) 32 37 (.agg #[(.int .i64 0), (.int .u64 0), (.int .i64 0), (.int .i64 0)]) 32 rfl Try.underlying32 info37 rfl (by decide) (by omega) v190 y189 y192 _ _ _ (fun k_ => some k_ ≠ (.slice (some ad169) x3_2.length co17 : Value).ownBlock ∧ some k_ ≠ (.slice Ao82 x5_2.length co82 : Value).ownBlock ∧ k_ ≠ gb170) (fun _ => False) rfl rfl ?aO ?aR (fun _ _ h => h) (fun _ h => h.elim) ?aF ?aB ?aS ?aL ?_
                          (case aR => repeat (first | exact (qdm2_8 HR195) | (with_reducible refine Kd.C_alloc ?_ _) | (with_reducible refine Kd.C_drewN ?_ _) | (with_reducible refine Kd.C_drew ?_)))
                          (case aB => exact (qdm2_4 HB GE170))
                          (case aF => exact (fun k_ hk => ⟨Kd.fresh' (Kd.R_lt (qdm2_1 HO_3)) k_ hk, Kd.fresh' (Kd.R_lt (qdm2_1 HO_5)) k_ hk, Kd.freshB (g := gb170) (o := .cells #[.int .i64 ((rd_T37 x3_2 x6_2).f0), .int .u64 ((rd_T37 x3_2 x6_2).f1), .int .i64 ((rd_T37 x3_2 x6_2).f2), .int .i64 ((rd_T37 x3_2 x6_2).f3)] 37 (0, 0)) (qdm2_5 BK170) k_ hk⟩))
                          (case aO => exact (qdm2_1 HO191))
                          (case aS => exact (below_size (qdm2_4 HB GE170)))
                          (case aL => have := LMc78.out; omega)
                          intro v197 w90 ho hb hg hat
                          rw [← Ny196.out] at ho
                          have n0_ := Aside0.mk (Kd.R_after (ok := (fun k_ => some k_ ≠ (.slice Ao82 x5_2.length co82 : Value).ownBlock ∧ k_ ≠ gb170)) (qdm2_1 HO_3) hg hat)
                          have n1_ := Aside0.mk (Kd.R_over' (qdm2_1 HO_4) (Kd.R_typed (qdm2_1 HO191)) (by decide) hg)
                          have n2_ := Aside0.mk (Kd.R_after (ok := (fun k_ => some k_ ≠ (.slice (some ad169) x3_2.length co17 : Value).ownBlock ∧ k_ ≠ gb170)) (qdm2_1 HO_5) hg hat)
                          have n3_ := Aside0.mk (blk_grown (g := gb170) (o := .cells #[.int .i64 ((rd_T37 x3_2 x6_2).f0), .int .u64 ((rd_T37 x3_2 x6_2).f1), .int .i64 ((rd_T37 x3_2 x6_2).f2), .int .i64 ((rd_T37 x3_2 x6_2).f3)] 37 (0, 0)) (qdm2_5 BK170) hg (Kd.R_away HO191.out (fun _ hk => hk.2.2)))
                          have n4_ := Aside0.mk (hb)
                          have n5_ := Aside0.mk ((show Kd.C k37 w90 Ao82 y185.length y185 from by rw [Ny185.out]; exact Kd.C_take (m := (x8_3 : Int).toNat) ((Kd.R_reads' (Kd.R_after (ok := (fun k_ => some k_ ≠ (.slice (some ad169) x3_2.length co17 : Value).ownBlock ∧ k_ ≠ gb170)) (qdm2_1 HO_5) hg hat)).2.2) KL85.out))
                          have n6_ := Aside0.mk ((show Kd.C k37 w90 A86 y192.length y192 from by rw [Ny192.out, KA86.out]; exact Kd.C_drop (m := ((ji75) : Int).toNat) (c := co82) ((Kd.R_reads' (Kd.R_after (ok := (fun k_ => some k_ ≠ (.slice (some ad169) x3_2.length co17 : Value).ownBlock ∧ k_ ≠ gb170)) (qdm2_1 HO_5) hg hat)).2.2) KL86.out ((Kd.R_reads' (Kd.R_after (ok := (fun k_ => some k_ ≠ (.slice (some ad169) x3_2.length co17 : Value).ownBlock ∧ k_ ≠ gb170)) (qdm2_1 HO_5) hg hat)).2.1)))
                          have n7_ := Aside0.mk (ho)
                          clear HO_3
                          clear HO_4
                          clear HO_5
                          clear BK170
                          clear HB
                          clear HR188
                          clear HR195
                          clear HO191
                          have HO_3 := n0_
                          have HO_4 := n1_
                          have HO_5 := n2_
                          have BK170 := n3_
                          have HB := n4_
                          have HR188 := n5_
                          have HR195 := n6_
                          have HO198 := n7_
                          clear n0_ n1_ n2_ n3_ n4_ n5_ n6_ n7_
                          clear ho hb hg hat
                          refine hK.out _ _ trivial (fun hHeld => ?_)
                          clear hK K
                          refine norm_ (a' := ?_) ?_ ?_
                          rotate_left
                          ·show Act.put _ (some 103) _ = _
                           simp only [Act.put, List.setIfInBounds_toArray, List.set_cons_zero, List.set_cons_succ, i64_w, i32_w]
                           rfl
                          refine pure_ (i := 10) (N := some 5) (v := ?_) (a' := ?_) #[true, true, true, true, true, true, true, true, true, true, true] rfl rfl (any_of HT_.out qdm2_7) (fun _ _ _ h => h) (Or.inl ⟨by rfl, ?_⟩) ?_ ?_
                          rotate_left
                          ·intro w'
                           go_simp
                           with_reducible rfl
                          rotate_left
                          ·simp only [Act.put, List.setIfInBounds_toArray, List.set_cons_zero, List.set_cons_succ, i64_w, i32_w]
                           rfl
                          refine done_ (done_of HT_.out qdm2_7) ?_
                          have p199 : 0 ≤ (x6_2 : Int) := of_decide_eq_true qdm2_2
                          have q199 : x6_2 < (t163.length : Int) := of_decide_eq_true qdm2_2
                          obtain ⟨ad199, e199, hx199_0⟩ := Kd.at_int (Kd.R_reads' HO_4.out).2.2 x6_2 p199 q199
                          cases e199
                          replace p199 := eq_true p199
                          replace q199 := eq_true q199
                          try go_wp2
                          (try simp only [← hl3_2])
                          go_roundg k3
                          case measure => have := HJ4.out; have := HK2.out; have := HK3.out; omega
                          case rel => exact ⟨(x3_2), (y196), (wrap64 (x6_2 + 1)), qdm2_6, H', ⟨by have := HJ4.out; have := HK2.out; have := HK3.out; omega⟩, ⟨by (try simp only [hl3_2]); (with_reducible repeat (first | apply Kd.R_alloc | apply Kd.R_drewN | apply Kd.R_drew)); exact Kd.R_mono HO_3.out (fun _ hk => hk.2)⟩, ⟨by (try simp only [hl3_2]); (with_reducible repeat (first | apply Kd.R_alloc | apply Kd.R_drewN | apply Kd.R_drew)); exact HO_4.out⟩, ⟨by (try simp only [hl3_2]); (with_reducible repeat (first | apply Kd.R_alloc | apply Kd.R_drewN | apply Kd.R_drew)); exact Kd.R_mono HO198.out (fun _ hk => hk.1)⟩, ⟨by repeat (first | (with_reducible first | exact HB.out | apply below_alloc | apply pw_below_drewN | apply below_drew1 | refine below_set ?_ GE170.out) | exact HB.out)⟩⟩
                         ·rw [if_neg c81] at H
                          exact absurd H (by simp)
                        ·rw [if_neg c80] at H
                         exact absurd H (by simp)
                       ·rw [if_neg c79] at H
                        exact absurd H (by simp)
                      ·rw [if_neg c78] at H
                       exact absurd H (by simp)
                     ·rw [if_neg c77] at H
                      exact absurd H (by simp)
                    ·rw [if_neg c76] at H
                     exact absurd H (by simp)
                   ·rw [if_neg c74] at H
                    exact absurd H (by simp)
                  ·rw [if_neg c73] at H
                   exact absurd H (by simp)
                 ·rw [if_neg c72] at H
                  exact absurd H (by simp)
                ·rw [if_neg c71] at H
                 have c71b0 : decide (0 ≤ x8_3) = false := decide_eq_false c71
                 clear c71
                 by_cases c91 : 0 ≤ x6_2
                 ·rw [if_pos c91] at H
                  have c91b0 : decide (0 ≤ x6_2) = true := decide_eq_true c91
                  clear c91
                  by_cases c92 : x6_2 < (t163.length : Int)
                  ·rw [if_pos c92] at H
                   have c92b0 : decide (x6_2 < (t163.length : Int)) = true := decide_eq_true c92
                   (try simp only [hl3_2] at c92b0)
                   clear c92
                   by_cases c93 : (rd t163 x6_2) = 0
                   ·rw [if_pos c93] at H
                    have c93b0 : ((rd t163 x6_2) == 0) = true := beq_iff_eq.mpr c93
                    have c93b1 : ((rd t163 x6_2) != 0) = false := bne_eq_false_iff_eq.mpr c93
                    clear c93
                    have H' := Aside0.mk H
                    clear H
                    obtain ⟨Ao94, co94, eo94⟩ := Kd.R_slice HO_5.out
                    subst eo94
                    have hcz95_0 : wr.cell? ⟨gb170, 0, none⟩ = some (.int .i64 ((rd_T37 x3_2 x6_2).f0)) := (blk_cell BK170.out 0).trans rfl
                    have hcz95_1 : wr.cell? ⟨gb170, 1, none⟩ = some (.int .u64 ((rd_T37 x3_2 x6_2).f1)) := (blk_cell BK170.out 1).trans rfl
                    have hcz95_2 : wr.cell? ⟨gb170, 2, none⟩ = some (.int .i64 ((rd_T37 x3_2 x6_2).f2)) := (blk_cell BK170.out 2).trans rfl
                    have hcz95_3 : wr.cell? ⟨gb170, 3, none⟩ = some (.int .i64 ((rd_T37 x3_2 x6_2).f3)) := (blk_cell BK170.out 3).trans rfl
                    have hfz95_0 := blk_frozen BK170.out 0
                    have hfz95_1 := blk_frozen BK170.out 1
                    have hfz95_2 := blk_frozen BK170.out 2
                    have hfz95_3 := blk_frozen BK170.out 3
                    have p200 : 0 ≤ (x6_2 : Int) := of_decide_eq_true qdm2_2
                    have q200 : x6_2 < (t163.length : Int) := of_decide_eq_true qdm2_2
                    obtain ⟨ad200, e200, hx200_0⟩ := Kd.at_int (Kd.R_reads' HO_4.out).2.2 x6_2 p200 q200
                    cases e200
                    replace p200 := eq_true p200
                    replace q200 := eq_true q200
                    go_wp2
                    (try simp only [← hl3_2])
                    go_roundg k3
                    case measure => have := HJ4.out; have := HK2.out; have := HK3.out; omega
                    case rel => exact ⟨(x3_2), (x5_2), (wrap64 (x6_2 + 1)), qdm2_6, H', ⟨by have := HJ4.out; have := HK2.out; have := HK3.out; omega⟩, ⟨by (try simp only [hl3_2]); (with_reducible repeat (first | apply Kd.R_alloc | apply Kd.R_drewN | apply Kd.R_drew)); exact Kd.R_mono HO_3.out (fun _ hk => hk.1)⟩, ⟨by (try simp only [hl3_2]); (with_reducible repeat (first | apply Kd.R_alloc | apply Kd.R_drewN | apply Kd.R_drew)); exact HO_4.out⟩, ⟨by (try simp only [hl3_2]); (with_reducible repeat (first | apply Kd.R_alloc | apply Kd.R_drewN | apply Kd.R_drew)); exact Kd.R_mono HO_5.out (fun _ hk => hk.1)⟩, ⟨by repeat (first | (with_reducible first | exact HB.out | apply below_alloc | apply pw_below_drewN | apply below_drew1 | refine below_set ?_ GE170.out) | exact HB.out)⟩⟩
                   ·rw [if_neg c93] at H
                    exact absurd H (by simp)
                  ·rw [if_neg c92] at H
                   exact absurd H (by simp)
                 ·rw [if_neg c91] at H
                  exact absurd H (by simp)
               ·rw [if_neg c70] at H
                have c70b0 : (((rd_T37 x3_2 x6_2).f0) == 3) = false := beq_eq_false_iff_ne.mpr c70
                have c70b1 : (((rd_T37 x3_2 x6_2).f0) != 3) = true := bne_iff_ne.mpr c70
                by_cases c96 : ((rd_T37 x3_2 x6_2).f0) = 4
                ·rw [if_pos c96] at H
                 have c96b0 : (((rd_T37 x3_2 x6_2).f0) == 4) = true := beq_iff_eq.mpr c96
                 have c96b1 : (((rd_T37 x3_2 x6_2).f0) != 4) = false := bne_eq_false_iff_eq.mpr c96
                 clear c96
                 by_cases c97 : 0 ≤ x6_2
                 ·rw [if_pos c97] at H
                  have c97b0 : decide (0 ≤ x6_2) = true := decide_eq_true c97
                  clear c97
                  by_cases c98 : x6_2 < (t163.length : Int)
                  ·rw [if_pos c98] at H
                   have c98b0 : decide (x6_2 < (t163.length : Int)) = true := decide_eq_true c98
                   (try simp only [hl3_2] at c98b0)
                   clear c98
                   by_cases c99 : (rd t163 x6_2) < 1
                   ·rw [if_pos c99] at H
                    exact absurd H (by simp)
                   ·rw [if_neg c99] at H
                    have c99b0 : decide ((rd t163 x6_2) < 1) = false := decide_eq_false c99
                    clear c99
                    have H' := Aside0.mk H
                    clear H
                    obtain ⟨Ao100, co100, eo100⟩ := Kd.R_slice HO_5.out
                    subst eo100
                    have hcz101_0 : wr.cell? ⟨gb170, 0, none⟩ = some (.int .i64 ((rd_T37 x3_2 x6_2).f0)) := (blk_cell BK170.out 0).trans rfl
                    have hcz101_1 : wr.cell? ⟨gb170, 1, none⟩ = some (.int .u64 ((rd_T37 x3_2 x6_2).f1)) := (blk_cell BK170.out 1).trans rfl
                    have hcz101_2 : wr.cell? ⟨gb170, 2, none⟩ = some (.int .i64 ((rd_T37 x3_2 x6_2).f2)) := (blk_cell BK170.out 2).trans rfl
                    have hcz101_3 : wr.cell? ⟨gb170, 3, none⟩ = some (.int .i64 ((rd_T37 x3_2 x6_2).f3)) := (blk_cell BK170.out 3).trans rfl
                    have hfz101_0 := blk_frozen BK170.out 0
                    have hfz101_1 := blk_frozen BK170.out 1
                    have hfz101_2 := blk_frozen BK170.out 2
                    have hfz101_3 := blk_frozen BK170.out 3
                    have p201 : 0 ≤ (x6_2 : Int) := of_decide_eq_true qdm2_2
                    have q201 : x6_2 < (t163.length : Int) := of_decide_eq_true qdm2_2
                    obtain ⟨ad201, e201, hx201_0⟩ := Kd.at_int (Kd.R_reads' HO_4.out).2.2 x6_2 p201 q201
                    cases e201
                    replace p201 := eq_true p201
                    replace q201 := eq_true q201
                    go_wp2
                    (try simp only [← hl3_2])
                    go_roundg k3
                    case measure => have := HJ4.out; have := HK2.out; have := HK3.out; omega
                    case rel => exact ⟨(x3_2), (x5_2), (wrap64 (x6_2 + 1)), qdm2_6, H', ⟨by have := HJ4.out; have := HK2.out; have := HK3.out; omega⟩, ⟨by (try simp only [hl3_2]); (with_reducible repeat (first | apply Kd.R_alloc | apply Kd.R_drewN | apply Kd.R_drew)); exact Kd.R_mono HO_3.out (fun _ hk => hk.1)⟩, ⟨by (try simp only [hl3_2]); (with_reducible repeat (first | apply Kd.R_alloc | apply Kd.R_drewN | apply Kd.R_drew)); exact HO_4.out⟩, ⟨by (try simp only [hl3_2]); (with_reducible repeat (first | apply Kd.R_alloc | apply Kd.R_drewN | apply Kd.R_drew)); exact Kd.R_mono HO_5.out (fun _ hk => hk.1)⟩, ⟨by repeat (first | (with_reducible first | exact HB.out | apply below_alloc | apply pw_below_drewN | apply below_drew1 | refine below_set ?_ GE170.out) | exact HB.out)⟩⟩
                  ·rw [if_neg c98] at H
                   exact absurd H (by simp)
                 ·rw [if_neg c97] at H
                  exact absurd H (by simp)
                ·rw [if_neg c96] at H
                 have c96b0 : (((rd_T37 x3_2 x6_2).f0) == 4) = false := beq_eq_false_iff_ne.mpr c96
                 have c96b1 : (((rd_T37 x3_2 x6_2).f0) != 4) = true := bne_iff_ne.mpr c96
                 by_cases c102 : ((rd_T37 x3_2 x6_2).f0) = 5
                 ·rw [if_pos c102] at H
                  have c102b0 : (((rd_T37 x3_2 x6_2).f0) == 5) = true := beq_iff_eq.mpr c102
                  have c102b1 : (((rd_T37 x3_2 x6_2).f0) != 5) = false := bne_eq_false_iff_eq.mpr c102
                  clear c102
                  by_cases c103 : 0 ≤ x6_2
                  ·rw [if_pos c103] at H
                   have c103b0 : decide (0 ≤ x6_2) = true := decide_eq_true c103
                   clear c103
                   by_cases c104 : x6_2 < (t163.length : Int)
                   ·rw [if_pos c104] at H
                    have c104b0 : decide (x6_2 < (t163.length : Int)) = true := decide_eq_true c104
                    (try simp only [hl3_2] at c104b0)
                    clear c104
                    by_cases c105 : (rd t163 x6_2) < 8
                    ·rw [if_pos c105] at H
                     exact absurd H (by simp)
                    ·rw [if_neg c105] at H
                     have c105b0 : decide ((rd t163 x6_2) < 8) = false := decide_eq_false c105
                     clear c105
                     have H' := Aside0.mk H
                     clear H
                     obtain ⟨Ao106, co106, eo106⟩ := Kd.R_slice HO_5.out
                     subst eo106
                     have hcz107_0 : wr.cell? ⟨gb170, 0, none⟩ = some (.int .i64 ((rd_T37 x3_2 x6_2).f0)) := (blk_cell BK170.out 0).trans rfl
                     have hcz107_1 : wr.cell? ⟨gb170, 1, none⟩ = some (.int .u64 ((rd_T37 x3_2 x6_2).f1)) := (blk_cell BK170.out 1).trans rfl
                     have hcz107_2 : wr.cell? ⟨gb170, 2, none⟩ = some (.int .i64 ((rd_T37 x3_2 x6_2).f2)) := (blk_cell BK170.out 2).trans rfl
                     have hcz107_3 : wr.cell? ⟨gb170, 3, none⟩ = some (.int .i64 ((rd_T37 x3_2 x6_2).f3)) := (blk_cell BK170.out 3).trans rfl
                     have hfz107_0 := blk_frozen BK170.out 0
                     have hfz107_1 := blk_frozen BK170.out 1
                     have hfz107_2 := blk_frozen BK170.out 2
                     have hfz107_3 := blk_frozen BK170.out 3
                     have p202 : 0 ≤ (x6_2 : Int) := of_decide_eq_true qdm2_2
                     have q202 : x6_2 < (t163.length : Int) := of_decide_eq_true qdm2_2
                     obtain ⟨ad202, e202, hx202_0⟩ := Kd.at_int (Kd.R_reads' HO_4.out).2.2 x6_2 p202 q202
                     cases e202
                     replace p202 := eq_true p202
                     replace q202 := eq_true q202
                     go_wp2
                     (try simp only [← hl3_2])
                     go_roundg k3
                     case measure => have := HJ4.out; have := HK2.out; have := HK3.out; omega
                     case rel => exact ⟨(x3_2), (x5_2), (wrap64 (x6_2 + 1)), qdm2_6, H', ⟨by have := HJ4.out; have := HK2.out; have := HK3.out; omega⟩, ⟨by (try simp only [hl3_2]); (with_reducible repeat (first | apply Kd.R_alloc | apply Kd.R_drewN | apply Kd.R_drew)); exact Kd.R_mono HO_3.out (fun _ hk => hk.1)⟩, ⟨by (try simp only [hl3_2]); (with_reducible repeat (first | apply Kd.R_alloc | apply Kd.R_drewN | apply Kd.R_drew)); exact HO_4.out⟩, ⟨by (try simp only [hl3_2]); (with_reducible repeat (first | apply Kd.R_alloc | apply Kd.R_drewN | apply Kd.R_drew)); exact Kd.R_mono HO_5.out (fun _ hk => hk.1)⟩, ⟨by repeat (first | (with_reducible first | exact HB.out | apply below_alloc | apply pw_below_drewN | apply below_drew1 | refine below_set ?_ GE170.out) | exact HB.out)⟩⟩
                   ·rw [if_neg c104] at H
                    exact absurd H (by simp)
                  ·rw [if_neg c103] at H
                   exact absurd H (by simp)
                 ·rw [if_neg c102] at H
                  have c102b0 : (((rd_T37 x3_2 x6_2).f0) == 5) = false := beq_eq_false_iff_ne.mpr c102
                  have c102b1 : (((rd_T37 x3_2 x6_2).f0) != 5) = true := bne_iff_ne.mpr c102
                  by_cases c108 : 0 ≤ x6_2
                  ·rw [if_pos c108] at H
                   have c108b0 : decide (0 ≤ x6_2) = true := decide_eq_true c108
                   clear c108
                   by_cases c109 : x6_2 < (t163.length : Int)
                   ·rw [if_pos c109] at H
                    have c109b0 : decide (x6_2 < (t163.length : Int)) = true := decide_eq_true c109
                    (try simp only [hl3_2] at c109b0)
                    clear c109
                    by_cases c110 : (rd t163 x6_2) = (-2)
                    ·rw [if_pos c110] at H
                     have c110b0 : ((rd t163 x6_2) == (-2)) = true := beq_iff_eq.mpr c110
                     have c110b1 : ((rd t163 x6_2) != (-2)) = false := bne_eq_false_iff_eq.mpr c110
                     clear c110
                     have H' := Aside0.mk H
                     clear H
                     obtain ⟨Ao111, co111, eo111⟩ := Kd.R_slice HO_5.out
                     subst eo111
                     have hcz112_0 : wr.cell? ⟨gb170, 0, none⟩ = some (.int .i64 ((rd_T37 x3_2 x6_2).f0)) := (blk_cell BK170.out 0).trans rfl
                     have hcz112_1 : wr.cell? ⟨gb170, 1, none⟩ = some (.int .u64 ((rd_T37 x3_2 x6_2).f1)) := (blk_cell BK170.out 1).trans rfl
                     have hcz112_2 : wr.cell? ⟨gb170, 2, none⟩ = some (.int .i64 ((rd_T37 x3_2 x6_2).f2)) := (blk_cell BK170.out 2).trans rfl
                     have hcz112_3 : wr.cell? ⟨gb170, 3, none⟩ = some (.int .i64 ((rd_T37 x3_2 x6_2).f3)) := (blk_cell BK170.out 3).trans rfl
                     have hfz112_0 := blk_frozen BK170.out 0
                     have hfz112_1 := blk_frozen BK170.out 1
                     have hfz112_2 := blk_frozen BK170.out 2
                     have hfz112_3 := blk_frozen BK170.out 3
                     have p203 : 0 ≤ (x6_2 : Int) := of_decide_eq_true qdm2_2
                     have q203 : x6_2 < (t163.length : Int) := of_decide_eq_true qdm2_2
                     obtain ⟨ad203, e203, hx203_0⟩ := Kd.at_int (Kd.R_reads' HO_4.out).2.2 x6_2 p203 q203
                     cases e203
                     replace p203 := eq_true p203
                     replace q203 := eq_true q203
                     go_wp2
                     (try simp only [← hl3_2])
                     go_roundg k3
                     case measure => have := HJ4.out; have := HK2.out; have := HK3.out; omega
                     case rel => exact ⟨(x3_2), (x5_2), (wrap64 (x6_2 + 1)), qdm2_6, H', ⟨by have := HJ4.out; have := HK2.out; have := HK3.out; omega⟩, ⟨by (try simp only [hl3_2]); (with_reducible repeat (first | apply Kd.R_alloc | apply Kd.R_drewN | apply Kd.R_drew)); exact Kd.R_mono HO_3.out (fun _ hk => hk.1)⟩, ⟨by (try simp only [hl3_2]); (with_reducible repeat (first | apply Kd.R_alloc | apply Kd.R_drewN | apply Kd.R_drew)); exact HO_4.out⟩, ⟨by (try simp only [hl3_2]); (with_reducible repeat (first | apply Kd.R_alloc | apply Kd.R_drewN | apply Kd.R_drew)); exact Kd.R_mono HO_5.out (fun _ hk => hk.1)⟩, ⟨by repeat (first | (with_reducible first | exact HB.out | apply below_alloc | apply pw_below_drewN | apply below_drew1 | refine below_set ?_ GE170.out) | exact HB.out)⟩⟩
                    ·rw [if_neg c110] at H
                     exact absurd H (by simp)
                   ·rw [if_neg c109] at H
                    exact absurd H (by simp)
                  ·rw [if_neg c108] at H
                   exact absurd H (by simp)
         ·rw [if_neg c24] at H
          exact absurd H (by simp)
        ·rw [if_neg c23] at H
         have c23b0 : decide (x6_2 < (x3_2.length : Int)) = false := decide_eq_false c23
         (try simp only [hl3_2] at c23b0)
         clear c23
         obtain rfl := Option.some.inj H
         go_wp2
         go_ret
         exact ⟨by first | rfl | (simp [errW_none, errW_some] <;> rfl) | (simp [*, errW_none, errW_some] <;> rfl), by repeat (first | (with_reducible first | exact HB.out | apply below_alloc | apply pw_below_drewN | apply below_drew1) | exact HB.out)⟩
     ·rw [if_neg c13] at H
      exact absurd H (by simp)
    ·rw [if_neg c11] at H
     exact absurd H (by simp)

/-- THE ONE PURE STATEMENT of laws_FnDictMap: yours. -/
def laws_FnDictMap.Pure : Prop := ∀ (l0 : List Int), l0.length ≤ maxLen → l0.length * 1 ≤ 140737488351232 → (∀ x ∈ l0, (Lit.int .u8 x).wf = true) → ∃ k, laws_FnDictMap.f k l0 = some true
theorem laws_FnDictMap.walk (P : laws_FnDictMap.Pure) (a0 : Option Addr) (len0 cap0 : Nat) (z0 : List Int) (w : World) (w0 : (a0 = none ∧ len0 = 0 ∧ cap0 = 0 ∧ z0 = []) ∨ ∃ x, a0 = some x ∧ len0 ≤ cap0 ∧ cap0 ≤ maxLen ∧ z0.length = cap0 ∧ (∀ i, i < z0.length → w.cell? (x.add i) = some (.int .u8 (z0.getD i 0))) ∧ ∀ n ∈ z0, (Lit.int .u8 n).wf = true) (y0 : len0 * 1 ≤ 140737488351232) :
  Calls Try.prog 4 #[.slice a0 len0 cap0] w fun e w' => e = .returned (.bool true) ∧ Below w.heap.size w w' := by
 obtain ⟨l0, rfl, hr0, hm0, hw0, hc0⟩ := ReadsInt.ofRowC w0
 obtain ⟨k, h⟩ := P l0 hm0 y0 hw0
 refine (laws_FnDictMap.calls k _ _ l0 true w (Kd.C_of_reads (d := (0 : Int)) (h1 := fun _ => rfl) hr0) hc0 h).mono ?_
 rintro e w' ⟨rfl, hd⟩
 exact ⟨rfl, hd⟩

end Go.Proofs.Ytohilfkdfcihgaa.PDi
