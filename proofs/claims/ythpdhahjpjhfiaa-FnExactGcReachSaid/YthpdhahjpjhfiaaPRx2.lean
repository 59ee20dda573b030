/- Go functions as Lean functions, and that each Go function comes to just that; printed by a program of this session (gprint.py over the kit's print.py). No condition. -/
import Derived.Test.YthpdhahjpjhfiaaPRx0
namespace Go.Proofs.Ythpdhahjpjhfiaa.PR
open Go.RowKit Go.Proofs.YthpdhahjpjhfiaaW.PrintWords Go.Proofs.YthpdhahjpjhfiaaW.PrintLast Go.Proofs.YthpdhahjpjhfiaaW.PrintMore
attribute [local go_sem] max2_int min2_int max_two min_two max_three min_three max_four min_four   -- for this text's walks alone
set_option linter.unusedVariables false
set_option linter.unusedSimpArgs false

/-! ### spec_GcReach: function 8 -/
mutual
def spec_GcReach.j0 : Nat → Int → List (S39) → List Int → List Int → Bool → Option (List Int)
 | 0, _, _, _, _, _ => none
 | k + 1, x0, x1, x2, x7, x25 => if x25 = true then (some x7) else (spec_GcReach.l0 k x0 x1 x2 x7 0)
def spec_GcReach.l0 : Nat → Int → List (S39) → List Int → List Int → Int → Option (List Int)
 | 0, _, _, _, _, _ => none
 | k + 1, x0, x1, x2, x7, x8 => if x8 < (x1.length : Int) then (if 0 ≤ x8 then (if ((rd_T39 x1 x8).f1) < 1 then (some x7) else (if ((rd_T39 x1 x8).f1) > x0 then (some x7) else (if ((rd_T39 x1 x8).f2) < 1 then (some x7) else (if ((rd_T39 x1 x8).f2) > x0 then (some x7) else (spec_GcReach.l0 k x0 x1 x2 x7 (wrap64 (x8 + 1))))))) else (none)) else (if 0 ≤ x0 then (if (x0 : Int).toNat ≤ 281474976710656 then (spec_GcReach.l1 k x0 x1 x2 x7 (List.replicate (x0 : Int).toNat false) (([] : List Int)) 0) else (none)) else (none))
def spec_GcReach.l1 : Nat → Int → List (S39) → List Int → List Int → List Bool → List Int → Int → Option (List Int)
 | 0, _, _, _, _, _, _, _ => none
 | k + 1, x0, x1, x2, x7, x9, x10, x11 => if x11 < (x2.length : Int) then (if 0 ≤ x11 then (if (rd x2 x11) < 1 then (some x7) else (if (rd x2 x11) > x0 then (some x7) else (spec_GcReach.l1 k x0 x1 x2 x7 x9 x10 (wrap64 (x11 + 1))))) else (none)) else (spec_GcReach.l2 k x0 x1 x2 x7 x9 x10 0)
def spec_GcReach.l2 : Nat → Int → List (S39) → List Int → List Int → List Bool → List Int → Int → Option (List Int)
 | 0, _, _, _, _, _, _, _ => none
 | k + 1, x0, x1, x2, x7, x9, x10, x12 => if x12 < (x2.length : Int) then (if 0 ≤ x12 then (if 0 ≤ (wrap64 ((rd x2 x12) - 1)) then (if (wrap64 ((rd x2 x12) - 1)) < (x9.length : Int) then (if (rdOf false x9 (wrap64 ((rd x2 x12) - 1)) = true) then (spec_GcReach.l2 k x0 x1 x2 x7 x9 x10 (wrap64 (x12 + 1))) else (if x10.length < 17592186044416 then (spec_GcReach.l2 k x0 x1 x2 x7 (x9.set ((wrap64 ((rd x2 x12) - 1)) : Int).toNat true) (x10 ++ [rd x2 x12]) (wrap64 (x12 + 1))) else (none))) else (none)) else (none)) else (none)) else (if 0 ≤ x0 then (if (x0 : Int).toNat ≤ 11728124029610 then (spec_GcReach.l3 k x0 x1 x7 x9 x10 (List.replicate (x0 : Int).toNat []) 0) else (none)) else (none))
def spec_GcReach.l3 : Nat → Int → List (S39) → List Int → List Bool → List Int → List (List Int) → Int → Option (List Int)
 | 0, _, _, _, _, _, _, _ => none
 | k + 1, x0, x1, x7, x9, x10, x13, x14 => if x14 < (x1.length : Int) then (if 0 ≤ x14 then (if 0 ≤ (wrap64 (((rd_T39 x1 x14).f1) - 1)) then (if (wrap64 (((rd_T39 x1 x14).f1) - 1)) < (x13.length : Int) then (if (rd_L3 x13 (wrap64 (((rd_T39 x1 x14).f1) - 1))).length < 17592186044416 then (spec_GcReach.l3 k x0 x1 x7 x9 x10 (x13.set ((wrap64 (((rd_T39 x1 x14).f1) - 1)) : Int).toNat ((rd_L3 x13 (wrap64 (((rd_T39 x1 x14).f1) - 1))) ++ [(rd_T39 x1 x14).f2])) (wrap64 (x14 + 1))) else (none)) else (none)) else (none)) else (none)) else (spec_GcReach.l4 k x0 x7 x9 x10 x13)
def spec_GcReach.l4 : Nat → Int → List Int → List Bool → List Int → List (List Int) → Option (List Int)
 | 0, _, _, _, _, _ => none
 | k + 1, x0, x7, x9, x10, x13 => if (x10.length : Int) > 0 then (if 0 ≤ (wrap64 ((x10.length : Int) - 1)) then (if (wrap64 ((x10.length : Int) - 1)) < (x10.length : Int) then (if (wrap64 ((x10.length : Int) - 1)) ≤ (x10.length : Int) then (spec_GcReach.l5 k x0 x7 x9 (x10.take ((wrap64 ((x10.length : Int) - 1)) : Int).toNat) x13 (rd x10 (wrap64 ((x10.length : Int) - 1))) 0) else (none)) else (none)) else (none)) else (spec_GcReach.l6 k x0 x7 x9 0)
def spec_GcReach.l5 : Nat → Int → List Int → List Bool → List Int → List (List Int) → Int → Int → Option (List Int)
 | 0, _, _, _, _, _, _, _ => none
 | k + 1, x0, x7, x9, x10, x13, x15, x16 => if 0 ≤ (wrap64 (x15 - 1)) then (if (wrap64 (x15 - 1)) < (x13.length : Int) then (if x16 < ((rd_L3 x13 (wrap64 (x15 - 1))).length : Int) then (if 0 ≤ x16 then (if 0 ≤ (wrap64 ((rd (rd_L3 x13 (wrap64 (x15 - 1))) x16) - 1)) then (if (wrap64 ((rd (rd_L3 x13 (wrap64 (x15 - 1))) x16) - 1)) < (x9.length : Int) then (if (rdOf false x9 (wrap64 ((rd (rd_L3 x13 (wrap64 (x15 - 1))) x16) - 1)) = true) then (spec_GcReach.l5 k x0 x7 x9 x10 x13 x15 (wrap64 (x16 + 1))) else (if x10.length < 17592186044416 then (spec_GcReach.l5 k x0 x7 (x9.set ((wrap64 ((rd (rd_L3 x13 (wrap64 (x15 - 1))) x16) - 1)) : Int).toNat true) (x10 ++ [rd (rd_L3 x13 (wrap64 (x15 - 1))) x16]) x13 x15 (wrap64 (x16 + 1))) else (none))) else (none)) else (none)) else (none)) else (spec_GcReach.l4 k x0 x7 x9 x10 x13)) else (none)) else (none)
def spec_GcReach.l6 : Nat → Int → List Int → List Bool → Int → Option (List Int)
 | 0, _, _, _, _ => none
 | k + 1, x0, x7, x9, x18 => if x18 < x0 then (if 0 ≤ x18 then (if x18 < (x9.length : Int) then (if rdOf false x9 x18 = true then (if x7.length < 17592186044416 then (spec_GcReach.l6 k x0 (x7 ++ [wrap64 (x18 + 1)]) x9 (wrap64 (x18 + 1))) else (none)) else (spec_GcReach.l6 k x0 x7 x9 (wrap64 (x18 + 1)))) else (none)) else (none)) else (some x7)
end
def spec_GcReach.f (k : Nat) (a0 : Int) (l1 : List (S39)) (l2 : List Int) : Option (List Int) := (some (([] : List Int) : List Int)).bind fun y101 => (if a0 < 0 then (spec_GcReach.j0 k a0 l1 l2 y101 true) else (spec_GcReach.j0 k a0 l1 l2 y101 (decide (a0 > 2000))))
theorem spec_GcReach.mono_l : ∀ k, (∀ y0 y1 y2 y3 y4, LeO (spec_GcReach.j0 k y0 y1 y2 y3 y4) (spec_GcReach.j0 (k + 1) y0 y1 y2 y3 y4)) ∧ (∀ y0 y1 y2 y3 y4, LeO (spec_GcReach.l0 k y0 y1 y2 y3 y4) (spec_GcReach.l0 (k + 1) y0 y1 y2 y3 y4)) ∧ (∀ y0 y1 y2 y3 y4 y5 y6, LeO (spec_GcReach.l1 k y0 y1 y2 y3 y4 y5 y6) (spec_GcReach.l1 (k + 1) y0 y1 y2 y3 y4 y5 y6)) ∧ (∀ y0 y1 y2 y3 y4 y5 y6, LeO (spec_GcReach.l2 k y0 y1 y2 y3 y4 y5 y6) (spec_GcReach.l2 (k + 1) y0 y1 y2 y3 y4 y5 y6)) ∧ (∀ y0 y1 y2 y3 y4 y5 y6, LeO (spec_GcReach.l3 k y0 y1 y2 y3 y4 y5 y6) (spec_GcReach.l3 (k + 1) y0 y1 y2 y3 y4 y5 y6)) ∧ (∀ y0 y1 y2 y3 y4, LeO (spec_GcReach.l4 k y0 y1 y2 y3 y4) (spec_GcReach.l4 (k + 1) y0 y1 y2 y3 y4)) ∧ (∀ y0 y1 y2 y3 y4 y5 y6, LeO (spec_GcReach.l5 k y0 y1 y2 y3 y4 y5 y6) (spec_GcReach.l5 (k + 1) y0 y1 y2 y3 y4 y5 y6)) ∧ (∀ y0 y1 y2 y3, LeO (spec_GcReach.l6 k y0 y1 y2 y3) (spec_GcReach.l6 (k + 1) y0 y1 y2 y3))
 | 0 => ⟨fun _ _ _ _ _ r h => by simp [spec_GcReach.j0] at h, fun _ _ _ _ _ r h => by simp [spec_GcReach.l0] at h, fun _ _ _ _ _ _ _ r h => by simp [spec_GcReach.l1] at h, fun _ _ _ _ _ _ _ r h => by simp [spec_GcReach.l2] at h, fun _ _ _ _ _ _ _ r h => by simp [spec_GcReach.l3] at h, fun _ _ _ _ _ r h => by simp [spec_GcReach.l4] at h, fun _ _ _ _ _ _ _ r h => by simp [spec_GcReach.l5] at h, fun _ _ _ _ r h => by simp [spec_GcReach.l6] at h⟩
 | k + 1 => by
  obtain ⟨ih0, ih1, ih2, ih3, ih4, ih5, ih6, ih7⟩ := spec_GcReach.mono_l k
  refine ⟨?_, ?_, ?_, ?_, ?_, ?_, ?_, ?_⟩
  ·intro y0 y1 y2 y3 y4
   unfold spec_GcReach.j0
   repeat' first
   | (with_reducible exact ih0 _ _ _ _ _)
   | (with_reducible exact ih1 _ _ _ _ _)
   | (with_reducible exact ih2 _ _ _ _ _ _ _)
   | (with_reducible exact ih3 _ _ _ _ _ _ _)
   | (with_reducible exact ih4 _ _ _ _ _ _ _)
   | (with_reducible exact ih5 _ _ _ _ _)
   | (with_reducible exact ih6 _ _ _ _ _ _ _)
   | (with_reducible exact ih7 _ _ _ _)
   | (with_reducible exact LeO.refl _)
   | (with_reducible exact LeO.none _)
   | (with_reducible refine LeO.ite ?_ ?_)
   | (with_reducible refine LeO.bind ?_ (fun _ => ?_))
   | exact ih0 _ _ _ _ _
   | exact ih1 _ _ _ _ _
   | exact ih2 _ _ _ _ _ _ _
   | exact ih3 _ _ _ _ _ _ _
   | exact ih4 _ _ _ _ _ _ _
   | exact ih5 _ _ _ _ _
   | exact ih6 _ _ _ _ _ _ _
   | exact ih7 _ _ _ _
   | exact LeO.none _
   | refine LeO.ite ?_ ?_
   | refine LeO.bind ?_ (fun _ => ?_)
  ·intro y0 y1 y2 y3 y4
   unfold spec_GcReach.l0
   repeat' first
   | (with_reducible exact ih0 _ _ _ _ _)
   | (with_reducible exact ih1 _ _ _ _ _)
   | (with_reducible exact ih2 _ _ _ _ _ _ _)
   | (with_reducible exact ih3 _ _ _ _ _ _ _)
   | (with_reducible exact ih4 _ _ _ _ _ _ _)
   | (with_reducible exact ih5 _ _ _ _ _)
   | (with_reducible exact ih6 _ _ _ _ _ _ _)
   | (with_reducible exact ih7 _ _ _ _)
   | (with_reducible exact LeO.refl _)
   | (with_reducible exact LeO.none _)
   | (with_reducible refine LeO.ite ?_ ?_)
   | (with_reducible refine LeO.bind ?_ (fun _ => ?_))
   | exact ih0 _ _ _ _ _
   | exact ih1 _ _ _ _ _
   | exact ih2 _ _ _ _ _ _ _
   | exact ih3 _ _ _ _ _ _ _
   | exact ih4 _ _ _ _ _ _ _
   | exact ih5 _ _ _ _ _
   | exact ih6 _ _ _ _ _ _ _
   | exact ih7 _ _ _ _
   | exact LeO.none _
   | refine LeO.ite ?_ ?_
   | refine LeO.bind ?_ (fun _ => ?_)
  ·intro y0 y1 y2 y3 y4 y5 y6
   unfold spec_GcReach.l1
   repeat' first
   | (with_reducible exact ih0 _ _ _ _ _)
   | (with_reducible exact ih1 _ _ _ _ _)
   | (with_reducible exact ih2 _ _ _ _ _ _ _)
   | (with_reducible exact ih3 _ _ _ _ _ _ _)
   | (with_reducible exact ih4 _ _ _ _ _ _ _)
   | (with_reducible exact ih5 _ _ _ _ _)
   | (with_reducible exact ih6 _ _ _ _ _ _ _)
   | (with_reducible exact ih7 _ _ _ _)
   | (with_reducible exact LeO.refl _)
   | (with_reducible exact LeO.none _)
   | (with_reducible refine LeO.ite ?_ ?_)
   | (with_reducible refine LeO.bind ?_ (fun _ => ?_))
   | exact ih0 _ _ _ _ _
   | exact ih1 _ _ _ _ _
   | exact ih2 _ _ _ _ _ _ _
   | exact ih3 _ _ _ _ _ _ _
   | exact ih4 _ _ _ _ _ _ _
   | exact ih5 _ _ _ _ _
   | exact ih6 _ _ _ _ _ _ _
   | exact ih7 _ _ _ _
   | exact LeO.none _
   | refine LeO.ite ?_ ?_
   | refine LeO.bind ?_ (fun _ => ?_)
  ·intro y0 y1 y2 y3 y4 y5 y6
   unfold spec_GcReach.l2
   repeat' first
   | (with_reducible exact ih0 _ _ _ _ _)
   | (with_reducible exact ih1 _ _ _ _ _)
   | (with_reducible exact ih2 _ _ _ _ _ _ _)
   | (with_reducible exact ih3 _ _ _ _ _ _ _)
   | (with_reducible exact ih4 _ _ _ _ _ _ _)
   | (with_reducible exact ih5 _ _ _ _ _)
   | (with_reducible exact ih6 _ _ _ _ _ _ _)
   | (with_reducible exact ih7 _ _ _ _)
   | (with_reducible exact LeO.refl _)
   | (with_reducible exact LeO.none _)
   | (with_reducible refine LeO.ite ?_ ?_)
   | (with_reducible refine LeO.bind ?_ (fun _ => ?_))
   | exact ih0 _ _ _ _ _
   | exact ih1 _ _ _ _ _
   | exact ih2 _ _ _ _ _ _ _
   | exact ih3 _ _ _ _ _ _ _
   | exact ih4 _ _ _ _ _ _ _
   | exact ih5 _ _ _ _ _
   | exact ih6 _ _ _ _ _ _ _
   | exact ih7 _ _ _ _
   | exact LeO.none _
   | refine LeO.ite ?_ ?_
   | refine LeO.bind ?_ (fun _ => ?_)
  ·intro y0 y1 y2 y3 y4 y5 y6
   unfold spec_GcReach.l3
   repeat' first
   | (with_reducible exact ih0 _ _ _ _ _)
   | (with_reducible exact ih1 _ _ _ _ _)
   | (with_reducible exact ih2 _ _ _ _ _ _ _)
   | (with_reducible exact ih3 _ _ _ _ _ _ _)
   | (with_reducible exact ih4 _ _ _ _ _ _ _)
   | (with_reducible exact ih5 _ _ _ _ _)
   | (with_reducible exact ih6 _ _ _ _ _ _ _)
   | (with_reducible exact ih7 _ _ _ _)
   | (with_reducible exact LeO.refl _)
   | (with_reducible exact LeO.none _)
   | (with_reducible refine LeO.ite ?_ ?_)
   | (with_reducible refine LeO.bind ?_ (fun _ => ?_))
   | exact ih0 _ _ _ _ _
   | exact ih1 _ _ _ _ _
   | exact ih2 _ _ _ _ _ _ _
   | exact ih3 _ _ _ _ _ _ _
   | exact ih4 _ _ _ _ _ _ _
   | exact ih5 _ _ _ _ _
   | exact ih6 _ _ _ _ _ _ _
   | exact ih7 _ _ _ _
   | exact LeO.none _
   | refine LeO.ite ?_ ?_
   | refine LeO.bind ?_ (fun _ => ?_)
  ·intro y0 y1 y2 y3 y4
   unfold spec_GcReach.l4
   repeat' first
   | (with_reducible exact ih0 _ _ _ _ _)
   | (with_reducible exact ih1 _ _ _ _ _)
   | (with_reducible exact ih2 _ _ _ _ _ _ _)
   | (with_reducible exact ih3 _ _ _ _ _ _ _)
   | (with_reducible exact ih4 _ _ _ _ _ _ _)
   | (with_reducible exact ih5 _ _ _ _ _)
   | (with_reducible exact ih6 _ _ _ _ _ _ _)
   | (with_reducible exact ih7 _ _ _ _)
   | (with_reducible exact LeO.refl _)
   | (with_reducible exact LeO.none _)
   | (with_reducible refine LeO.ite ?_ ?_)
   | (with_reducible refine LeO.bind ?_ (fun _ => ?_))
   | exact ih0 _ _ _ _ _
   | exact ih1 _ _ _ _ _
   | exact ih2 _ _ _ _ _ _ _
   | exact ih3 _ _ _ _ _ _ _
   | exact ih4 _ _ _ _ _ _ _
   | exact ih5 _ _ _ _ _
   | exact ih6 _ _ _ _ _ _ _
   | exact ih7 _ _ _ _
   | exact LeO.none _
   | refine LeO.ite ?_ ?_
   | refine LeO.bind ?_ (fun _ => ?_)
  ·intro y0 y1 y2 y3 y4 y5 y6
   unfold spec_GcReach.l5
   repeat' first
   | (with_reducible exact ih0 _ _ _ _ _)
   | (with_reducible exact ih1 _ _ _ _ _)
   | (with_reducible exact ih2 _ _ _ _ _ _ _)
   | (with_reducible exact ih3 _ _ _ _ _ _ _)
   | (with_reducible exact ih4 _ _ _ _ _ _ _)
   | (with_reducible exact ih5 _ _ _ _ _)
   | (with_reducible exact ih6 _ _ _ _ _ _ _)
   | (with_reducible exact ih7 _ _ _ _)
   | (with_reducible exact LeO.refl _)
   | (with_reducible exact LeO.none _)
   | (with_reducible refine LeO.ite ?_ ?_)
   | (with_reducible refine LeO.bind ?_ (fun _ => ?_))
   | exact ih0 _ _ _ _ _
   | exact ih1 _ _ _ _ _
   | exact ih2 _ _ _ _ _ _ _
   | exact ih3 _ _ _ _ _ _ _
   | exact ih4 _ _ _ _ _ _ _
   | exact ih5 _ _ _ _ _
   | exact ih6 _ _ _ _ _ _ _
   | exact ih7 _ _ _ _
   | exact LeO.none _
   | refine LeO.ite ?_ ?_
   | refine LeO.bind ?_ (fun _ => ?_)
  ·intro y0 y1 y2 y3
   unfold spec_GcReach.l6
   repeat' first
   | (with_reducible exact ih0 _ _ _ _ _)
   | (with_reducible exact ih1 _ _ _ _ _)
   | (with_reducible exact ih2 _ _ _ _ _ _ _)
   | (with_reducible exact ih3 _ _ _ _ _ _ _)
   | (with_reducible exact ih4 _ _ _ _ _ _ _)
   | (with_reducible exact ih5 _ _ _ _ _)
   | (with_reducible exact ih6 _ _ _ _ _ _ _)
   | (with_reducible exact ih7 _ _ _ _)
   | (with_reducible exact LeO.refl _)
   | (with_reducible exact LeO.none _)
   | (with_reducible refine LeO.ite ?_ ?_)
   | (with_reducible refine LeO.bind ?_ (fun _ => ?_))
   | exact ih0 _ _ _ _ _
   | exact ih1 _ _ _ _ _
   | exact ih2 _ _ _ _ _ _ _
   | exact ih3 _ _ _ _ _ _ _
   | exact ih4 _ _ _ _ _ _ _
   | exact ih5 _ _ _ _ _
   | exact ih6 _ _ _ _ _ _ _
   | exact ih7 _ _ _ _
   | exact LeO.none _
   | refine LeO.ite ?_ ?_
   | refine LeO.bind ?_ (fun _ => ?_)
theorem spec_GcReach.mono : ∀ a0 a1 a2 k, LeO (spec_GcReach.f k a0 a1 a2) (spec_GcReach.f (k + 1) a0 a1 a2) := by
 intro a0 a1 a2 k
 obtain ⟨ih0, ih1, ih2, ih3, ih4, ih5, ih6, ih7⟩ := spec_GcReach.mono_l k
 unfold spec_GcReach.f
 repeat' first
   | (with_reducible exact ih0 _ _ _ _ _)
   | (with_reducible exact ih1 _ _ _ _ _)
   | (with_reducible exact ih2 _ _ _ _ _ _ _)
   | (with_reducible exact ih3 _ _ _ _ _ _ _)
   | (with_reducible exact ih4 _ _ _ _ _ _ _)
   | (with_reducible exact ih5 _ _ _ _ _)
   | (with_reducible exact ih6 _ _ _ _ _ _ _)
   | (with_reducible exact ih7 _ _ _ _)
   | (with_reducible exact LeO.refl _)
   | (with_reducible exact LeO.none _)
   | (with_reducible refine LeO.ite ?_ ?_)
   | (with_reducible refine LeO.bind ?_ (fun _ => ?_))
   | exact ih0 _ _ _ _ _
   | exact ih1 _ _ _ _ _
   | exact ih2 _ _ _ _ _ _ _
   | exact ih3 _ _ _ _ _ _ _
   | exact ih4 _ _ _ _ _ _ _
   | exact ih5 _ _ _ _ _
   | exact ih6 _ _ _ _ _ _ _
   | exact ih7 _ _ _ _
   | exact LeO.none _
   | refine LeO.ite ?_ ?_
   | refine LeO.bind ?_ (fun _ => ?_)
def spec_GcReach.T26 : Bool × List (List Nat × List Nat) := (true, [([], []), ([], []), ([], []), ([1, 2], [1, 2]), ([3], [3]), ([4], [4]), ([5], [5]), ([], []), ([], []), ([], []), ([8, 9], [8, 9]), ([10], [10]), ([11], [11]), ([12], [12]), ([7, 13], [7, 13]), ([14], [14]), ([], []), ([], []), ([16, 17], [16, 17]), ([18], [18]), ([19], [19]), ([20], [20]), ([15, 21], [15, 21]), ([0, 6, 0, 1, 2, 3, 4, 5, 6, 7, 8, 9, 10, 11, 12, 13, 14, 15, 16, 17, 18, 19, 20, 21, 22], [0, 6]), ([23, 22, 22, 0, 1, 2, 3, 4, 5, 6, 7, 8, 9, 10, 11, 12, 13, 14, 15, 16, 17, 18, 19, 20, 21, 22], [22, 23])])
def spec_GcReach.B26 : List Nat := [0, 0, 0, 6, 14, 30, 62, 0, 0, 0, 768, 1792, 3840, 7936, 16256, 32640, 0, 0, 196608, 458752, 983040, 2031616, 4194176, 8388607, 16777215]
theorem spec_GcReach.tab26 : rtab .any (opsOf Try.f8 26) = spec_GcReach.T26 := by kernel_rfl
theorem spec_GcReach.bits26 : waitsOk spec_GcReach.T26.2 spec_GcReach.B26 = true := by kernel_rfl
set_option maxHeartbeats 8000000 in
set_option maxRecDepth 100000 in
theorem spec_GcReach.calls (k : Nat) (a0 : Int) (A1 : Option Addr) (c1 : Nat) (l1 : List (S39)) (A2 : Option Addr) (c2 : Nat) (l2 : List Int) (r : List Int) (w : World) (hr1 : Kd.C k39 w A1 l1.length l1) (hc1 : l1.length ≤ c1) (hr2 : Kd.C (Kd.int .i64) w A2 l2.length l2) (hc2 : l2.length ≤ c2) (h : spec_GcReach.f k a0 l1 l2 = some r) :
  Calls Try.prog 8 #[.int .i64 a0, .slice A1 l1.length c1, .slice A2 l2.length c2] w fun e w' => ∃ v0_ : Value, e = .returned (v0_) ∧ Kd.R (Kd.int .i64) 2 w' w.heap.size (fun _ => True) v0_ r ∧ Below w.heap.size w w' := by
 have HR1 := Aside0.mk hr1
 have HC1 := Aside0.mk hc1
 clear hr1 hc1
 have HR2 := Aside0.mk hr2
 have HC2 := Aside0.mk hc2
 clear hr2 hc2
 have HB := Aside0.mk (Below.refl w.heap.size w)
 have H : ((some (([] : List Int) : List Int)).bind fun y101 => (if a0 < 0 then (spec_GcReach.j0 k a0 l1 l2 y101 true) else (spec_GcReach.j0 k a0 l1 l2 y101 (decide (a0 > 2000))))) = some r := h
 clear h
 obtain ⟨y101, hy101⟩ : ∃ y_ : List Int, y_ = (([] : List Int)) := ⟨_, rfl⟩
 replace H : (if a0 < 0 then (spec_GcReach.j0 k a0 l1 l2 y101 true) else (spec_GcReach.j0 k a0 l1 l2 y101 (decide (a0 > 2000)))) = some r := by first | (rw [hy101]; with_reducible exact H) | (have H2_ := (Option.bind_some _ _).symm.trans H; rw [hy101]; with_reducible exact H2_) | (have H2_ := (Option.bind_some _ _).symm.trans H; with_reducible exact H2_) | with_reducible exact H | (rw [hy101]; exact H) | exact H
 have Ny101 := Aside0.mk hy101
 clear hy101
 have HC4 := Aside0.mk H
 clear H
 go_enter Try.func8, Try.ntmps8
 go_upto_region 2 with (first | ((with_reducible refine gate_dst (N := 19) rfl ?_); refine Kd.R_lit (Kd.int .i64) _ 2 ?hg (N := 19) ?hd (xs := ([] : List Int)) (inner := []) (ok := fun _ => True) (okp := fun _ => True) ?hr ?hp (fun _ hk => hk) trivial (Below.refl _ _) (Nat.le_refl _) (by simp) ?_; (case hd => rfl); (case hg => rfl); (case hr => first | (go_simp; done) | (go_simp; rfl)); (case hp => exact (Reps.none _ _)); intro v102 w5 ho6 hb hg_ hnew_; clear hg_ hnew_; (first | rw [← Ny101.out] at ho6 | (simp only [Int.reduceToNat] at ho6; rw [← Ny101.out] at ho6)); have n0_ := Aside0.mk (Kd.R_lower ho6 (below_size (by repeat (first | (with_reducible first | exact HB.out | apply below_alloc | apply pw_below_drewN | apply below_drew1) | exact HB.out)))); have n1_ := Aside0.mk (below_step (by repeat (first | (with_reducible first | exact HB.out | apply below_alloc | apply pw_below_drewN | apply below_drew1) | exact HB.out)) hb); clear HB; have HO103 := n0_; have HB := n1_; clear n0_ n1_; clear hb ho6))
 (try simp only [Act.put, List.setIfInBounds_toArray, List.set_cons_zero, List.set_cons_succ])
 go_cut [25] (fun v25 wc => ∃ (kq : Nat) (x25_3 : Bool), v25 = .bool x25_3 ∧ Aside0 (spec_GcReach.j0 kq a0 l1 l2 y101 x25_3 = some r) ∧ Aside0 (kq ≤ k) ∧ Aside0 (Kd.R (Kd.int .i64) 2 wc w.heap.size (fun _ => True) v102 y101) ∧ Aside0 (Below w.heap.size w wc))
 case first =>
  have H := HC4.out
  clear HC4
  by_cases c7 : a0 < 0
  ·rw [if_pos c7] at H
   have c7b0 : decide (a0 < 0) = true := decide_eq_true c7
   clear c7
   (first | rw [c7b0] | (simp only [i64_w, i32_w]; rw [c7b0]) | skip)
   have H' := Aside0.mk H
   clear H
   go_wp2
   go_meet
   case rel => exact ⟨_, (true), (by first | rfl | (simp; done) | (simp [*]; done)), H', ⟨by first | omega | exact Nat.le_refl _⟩, ⟨by (with_reducible repeat (first | apply Kd.R_alloc | apply Kd.R_drewN | apply Kd.R_drew)); exact HO103.out⟩, ⟨by repeat (first | (with_reducible first | exact HB.out | apply below_alloc | apply pw_below_drewN | apply below_drew1) | exact HB.out)⟩⟩
  ·rw [if_neg c7] at H
   have c7b0 : decide (a0 < 0) = false := decide_eq_false c7
   clear c7
   (first | rw [c7b0] | (simp only [i64_w, i32_w]; rw [c7b0]) | skip)
   have H' := Aside0.mk H
   clear H
   go_wp2
   go_meet
   case rel => exact ⟨_, (decide (a0 > 2000)), (by first | rfl | (simp; done) | (simp [*]; done)), H', ⟨by first | omega | exact Nat.le_refl _⟩, ⟨by (with_reducible repeat (first | apply Kd.R_alloc | apply Kd.R_drewN | apply Kd.R_drew)); exact HO103.out⟩, ⟨by repeat (first | (with_reducible first | exact HB.out | apply below_alloc | apply pw_below_drewN | apply below_drew1) | exact HB.out)⟩⟩
 case rest =>
  clear HC4
  try clear c1
  try clear c2
  try clear p2
  try clear c7
  try clear c7b0
  obtain ⟨kq, x25_3, rfl, HA, HJ3, HO_7, HB⟩ := hcut
  cases kq with
  | zero => exact absurd HA.out (by simp [spec_GcReach.j0])
  | succ kj3 =>
   have H := HA.out
   clear HA
   simp only [spec_GcReach.j0] at H
   by_cases c8 : x25_3 = true
   ·subst c8
    have H1 : (some y101) = some r := by rw [if_pos rfl] at H; exact H
    clear H
    have H := H1
    clear H1
    obtain rfl := Option.some.inj H
    go_wp2
    go_ret
    exact ⟨_, by first | rfl | (simp [errW_none, errW_some] <;> rfl) | (simp [*, errW_none, errW_some] <;> rfl), by (with_reducible repeat (first | apply Kd.R_alloc | apply Kd.R_drewN | apply Kd.R_drew)); exact HO_7.out, by repeat (first | (with_reducible first | exact HB.out | apply below_alloc | apply pw_below_drewN | apply below_drew1) | exact HB.out)⟩
   ·replace c8 := Bool.eq_false_iff.mpr c8
    subst c8
    have H1 : (spec_GcReach.l0 kj3 a0 l1 l2 y101 0) = some r := by rw [if_neg (show ¬ (false = true) by decide)] at H; exact H
    clear H
    have H := H1
    clear H1
    have H' := Aside0.mk H
    clear H
    go_wp2
    go_loopg [8] kj3 (fun kq v8 w' => ∃ (x8_2 : Int), v8 = .int .i64 x8_2 ∧ Aside0 (spec_GcReach.l0 kq a0 l1 l2 y101 x8_2 = some r) ∧ Aside0 (kq ≤ kj3) ∧ Aside0 (Kd.R (Kd.int .i64) 2 w' w.heap.size (fun _ => True) v102 y101) ∧ Aside0 (Below w.heap.size w w'))
    case atStart => exact ⟨(0), (by first | rfl | (simp; done) | (simp [*]; done)), H', ⟨Nat.le_refl _⟩, ⟨by (with_reducible repeat (first | apply Kd.R_alloc | apply Kd.R_drewN | apply Kd.R_drew)); exact HO_7.out⟩, ⟨by repeat (first | (with_reducible first | exact HB.out | apply below_alloc | apply pw_below_drewN | apply below_drew1) | exact HB.out)⟩⟩
    case round =>
     clear H'
     try clear c1
     try clear c2
     try clear p2
     try clear c7
     try clear c7b0
     try clear c8
     try clear p2
     obtain ⟨x8_2, rfl, HA, HK2, HO_7, HB⟩ := hrel
     cases gk with
     | zero => exact absurd HA.out (by simp [spec_GcReach.l0])
     | succ k2 =>
      have H := HA.out
      clear HA
      simp only [spec_GcReach.l0] at H
      by_cases c9 : x8_2 < (l1.length : Int)
      ·rw [if_pos c9] at H
       have c9b0 : decide (x8_2 < (l1.length : Int)) = true := decide_eq_true c9
       clear c9
       by_cases c10 : 0 ≤ x8_2
       ·rw [if_pos c10] at H
        have c10b0 : decide (0 ≤ x8_2) = true := decide_eq_true c10
        clear c10
        by_cases c11 : ((rd_T39 l1 x8_2).f1) < 1
        ·rw [if_pos c11] at H
         have c11b0 : decide (((rd_T39 l1 x8_2).f1) < 1) = true := decide_eq_true c11
         clear c11
         obtain rfl := Option.some.inj H
         have p104 : 0 ≤ (x8_2 : Int) := of_decide_eq_true (by first | (with_reducible assumption) | assumption)
         have q104 : x8_2 < (l1.length : Int) := of_decide_eq_true (by first | (with_reducible assumption) | assumption)
         obtain ⟨ad104, e104, hx104_0, hx104_1, hx104_2⟩ := at_T39 HR1.out x8_2 p104 q104
         cases e104
         replace hx104_0 := (HB.out.cell (World.block_lt_of_cell? w _ hx104_0)).trans hx104_0
         replace hx104_1 := (HB.out.cell (World.block_lt_of_cell? w _ hx104_1)).trans hx104_1
         replace hx104_2 := (HB.out.cell (World.block_lt_of_cell? w _ hx104_2)).trans hx104_2
         replace p104 := eq_true p104
         replace q104 := eq_true q104
         go_wp2
         go_ret
         exact ⟨_, by first | rfl | (simp [errW_none, errW_some] <;> rfl) | (simp [*, errW_none, errW_some] <;> rfl), by (with_reducible repeat (first | apply Kd.R_alloc | apply Kd.R_drewN | apply Kd.R_drew)); exact HO_7.out, by repeat (first | (with_reducible first | exact HB.out | apply below_alloc | apply pw_below_drewN | apply below_drew1) | exact HB.out)⟩
        ·rw [if_neg c11] at H
         have c11b0 : decide (((rd_T39 l1 x8_2).f1) < 1) = false := decide_eq_false c11
         clear c11
         by_cases c12 : ((rd_T39 l1 x8_2).f1) > a0
         ·rw [if_pos c12] at H
          have c12b0 : decide (a0 < ((rd_T39 l1 x8_2).f1)) = true := decide_eq_true c12
          clear c12
          obtain rfl := Option.some.inj H
          have p104 : 0 ≤ (x8_2 : Int) := of_decide_eq_true (by first | (with_reducible assumption) | assumption)
          have q104 : x8_2 < (l1.length : Int) := of_decide_eq_true (by first | (with_reducible assumption) | assumption)
          obtain ⟨ad104, e104, hx104_0, hx104_1, hx104_2⟩ := at_T39 HR1.out x8_2 p104 q104
          cases e104
          replace hx104_0 := (HB.out.cell (World.block_lt_of_cell? w _ hx104_0)).trans hx104_0
          replace hx104_1 := (HB.out.cell (World.block_lt_of_cell? w _ hx104_1)).trans hx104_1
          replace hx104_2 := (HB.out.cell (World.block_lt_of_cell? w _ hx104_2)).trans hx104_2
          replace p104 := eq_true p104
          replace q104 := eq_true q104
          have p105 : 0 ≤ (x8_2 : Int) := of_decide_eq_true (by first | (with_reducible assumption) | assumption)
          have q105 : x8_2 < (l1.length : Int) := of_decide_eq_true (by first | (with_reducible assumption) | assumption)
          obtain ⟨ad105, e105, hx105_0, hx105_1, hx105_2⟩ := at_T39 HR1.out x8_2 p105 q105
          obtain rfl : ad104 = ad105 := (by injection e105)
          replace hx105_0 := (HB.out.cell (World.block_lt_of_cell? w _ hx105_0)).trans hx105_0
          replace hx105_1 := (HB.out.cell (World.block_lt_of_cell? w _ hx105_1)).trans hx105_1
          replace hx105_2 := (HB.out.cell (World.block_lt_of_cell? w _ hx105_2)).trans hx105_2
          replace p105 := eq_true p105
          replace q105 := eq_true q105
          go_wp2
          go_ret
          exact ⟨_, by first | rfl | (simp [errW_none, errW_some] <;> rfl) | (simp [*, errW_none, errW_some] <;> rfl), by (with_reducible repeat (first | apply Kd.R_alloc | apply Kd.R_drewN | apply Kd.R_drew)); exact HO_7.out, by repeat (first | (with_reducible first | exact HB.out | apply below_alloc | apply pw_below_drewN | apply below_drew1) | exact HB.out)⟩
         ·rw [if_neg c12] at H
          have c12b0 : decide (a0 < ((rd_T39 l1 x8_2).f1)) = false := decide_eq_false c12
          clear c12
          by_cases c13 : ((rd_T39 l1 x8_2).f2) < 1
          ·rw [if_pos c13] at H
           have c13b0 : decide (((rd_T39 l1 x8_2).f2) < 1) = true := decide_eq_true c13
           clear c13
           obtain rfl := Option.some.inj H
           have p104 : 0 ≤ (x8_2 : Int) := of_decide_eq_true (by first | (with_reducible assumption) | assumption)
           have q104 : x8_2 < (l1.length : Int) := of_decide_eq_true (by first | (with_reducible assumption) | assumption)
           obtain ⟨ad104, e104, hx104_0, hx104_1, hx104_2⟩ := at_T39 HR1.out x8_2 p104 q104
           cases e104
           replace hx104_0 := (HB.out.cell (World.block_lt_of_cell? w _ hx104_0)).trans hx104_0
           replace hx104_1 := (HB.out.cell (World.block_lt_of_cell? w _ hx104_1)).trans hx104_1
           replace hx104_2 := (HB.out.cell (World.block_lt_of_cell? w _ hx104_2)).trans hx104_2
           replace p104 := eq_true p104
           replace q104 := eq_true q104
           have p105 : 0 ≤ (x8_2 : Int) := of_decide_eq_true (by first | (with_reducible assumption) | assumption)
           have q105 : x8_2 < (l1.length : Int) := of_decide_eq_true (by first | (with_reducible assumption) | assumption)
           obtain ⟨ad105, e105, hx105_0, hx105_1, hx105_2⟩ := at_T39 HR1.out x8_2 p105 q105
           obtain rfl : ad104 = ad105 := (by injection e105)
           replace hx105_0 := (HB.out.cell (World.block_lt_of_cell? w _ hx105_0)).trans hx105_0
           replace hx105_1 := (HB.out.cell (World.block_lt_of_cell? w _ hx105_1)).trans hx105_1
           replace hx105_2 := (HB.out.cell (World.block_lt_of_cell? w _ hx105_2)).trans hx105_2
           replace p105 := eq_true p105
           replace q105 := eq_true q105
           have p106 : 0 ≤ (x8_2 : Int) := of_decide_eq_true (by first | (with_reducible assumption) | assumption)
           have q106 : x8_2 < (l1.length : Int) := of_decide_eq_true (by first | (with_reducible assumption) | assumption)
           obtain ⟨ad106, e106, hx106_0, hx106_1, hx106_2⟩ := at_T39 HR1.out x8_2 p106 q106
           obtain rfl : ad104 = ad106 := (by injection e106)
           replace hx106_0 := (HB.out.cell (World.block_lt_of_cell? w _ hx106_0)).trans hx106_0
           replace hx106_1 := (HB.out.cell (World.block_lt_of_cell? w _ hx106_1)).trans hx106_1
           replace hx106_2 := (HB.out.cell (World.block_lt_of_cell? w _ hx106_2)).trans hx106_2
           replace p106 := eq_true p106
           replace q106 := eq_true q106
           go_wp2
           go_ret
           exact ⟨_, by first | rfl | (simp [errW_none, errW_some] <;> rfl) | (simp [*, errW_none, errW_some] <;> rfl), by (with_reducible repeat (first | apply Kd.R_alloc | apply Kd.R_drewN | apply Kd.R_drew)); exact HO_7.out, by repeat (first | (with_reducible first | exact HB.out | apply below_alloc | apply pw_below_drewN | apply below_drew1) | exact HB.out)⟩
          ·rw [if_neg c13] at H
           have c13b0 : decide (((rd_T39 l1 x8_2).f2) < 1) = false := decide_eq_false c13
           clear c13
           by_cases c14 : ((rd_T39 l1 x8_2).f2) > a0
           ·rw [if_pos c14] at H
            have c14b0 : decide (a0 < ((rd_T39 l1 x8_2).f2)) = true := decide_eq_true c14
            clear c14
            obtain rfl := Option.some.inj H
            have p104 : 0 ≤ (x8_2 : Int) := of_decide_eq_true (by first | (with_reducible assumption) | assumption)
            have q104 : x8_2 < (l1.length : Int) := of_decide_eq_true (by first | (with_reducible assumption) | assumption)
            obtain ⟨ad104, e104, hx104_0, hx104_1, hx104_2⟩ := at_T39 HR1.out x8_2 p104 q104
            cases e104
            replace hx104_0 := (HB.out.cell (World.block_lt_of_cell? w _ hx104_0)).trans hx104_0
            replace hx104_1 := (HB.out.cell (World.block_lt_of_cell? w _ hx104_1)).trans hx104_1
            replace hx104_2 := (HB.out.cell (World.block_lt_of_cell? w _ hx104_2)).trans hx104_2
            replace p104 := eq_true p104
            replace q104 := eq_true q104
            have p105 : 0 ≤ (x8_2 : Int) := of_decide_eq_true (by first | (with_reducible assumption) | assumption)
            have q105 : x8_2 < (l1.length : Int) := of_decide_eq_true (by first | (with_reducible assumption) | assumption)
            obtain ⟨ad105, e105, hx105_0, hx105_1, hx105_2⟩ := at_T39 HR1.out x8_2 p105 q105
            obtain rfl : ad104 = ad105 := (by injection e105)
            replace hx105_0 := (HB.out.cell (World.block_lt_of_cell? w _ hx105_0)).trans hx105_0
            replace hx105_1 := (HB.out.cell (World.block_lt_of_cell? w _ hx105_1)).trans hx105_1
            replace hx105_2 := (HB.out.cell (World.block_lt_of_cell? w _ hx105_2)).trans hx105_2
            replace p105 := eq_true p105
            replace q105 := eq_true q105
            have p106 : 0 ≤ (x8_2 : Int) := of_decide_eq_true (by first | (with_reducible assumption) | assumption)
            have q106 : x8_2 < (l1.length : Int) := of_decide_eq_true (by first | (with_reducible assumption) | assumption)
            obtain ⟨ad106, e106, hx106_0, hx106_1, hx106_2⟩ := at_T39 HR1.out x8_2 p106 q106
            obtain rfl : ad104 = ad106 := (by injection e106)
            replace hx106_0 := (HB.out.cell (World.block_lt_of_cell? w _ hx106_0)).trans hx106_0
            replace hx106_1 := (HB.out.cell (World.block_lt_of_cell? w _ hx106_1)).trans hx106_1
            replace hx106_2 := (HB.out.cell (World.block_lt_of_cell? w _ hx106_2)).trans hx106_2
            replace p106 := eq_true p106
            replace q106 := eq_true q106
            have p107 : 0 ≤ (x8_2 : Int) := of_decide_eq_true (by first | (with_reducible assumption) | assumption)
            have q107 : x8_2 < (l1.length : Int) := of_decide_eq_true (by first | (with_reducible assumption) | assumption)
            obtain ⟨ad107, e107, hx107_0, hx107_1, hx107_2⟩ := at_T39 HR1.out x8_2 p107 q107
            obtain rfl : ad104 = ad107 := (by injection e107)
            replace hx107_0 := (HB.out.cell (World.block_lt_of_cell? w _ hx107_0)).trans hx107_0
            replace hx107_1 := (HB.out.cell (World.block_lt_of_cell? w _ hx107_1)).trans hx107_1
            replace hx107_2 := (HB.out.cell (World.block_lt_of_cell? w _ hx107_2)).trans hx107_2
            replace p107 := eq_true p107
            replace q107 := eq_true q107
            go_wp2
            go_ret
            exact ⟨_, by first | rfl | (simp [errW_none, errW_some] <;> rfl) | (simp [*, errW_none, errW_some] <;> rfl), by (with_reducible repeat (first | apply Kd.R_alloc | apply Kd.R_drewN | apply Kd.R_drew)); exact HO_7.out, by repeat (first | (with_reducible first | exact HB.out | apply below_alloc | apply pw_below_drewN | apply below_drew1) | exact HB.out)⟩
           ·rw [if_neg c14] at H
            have c14b0 : decide (a0 < ((rd_T39 l1 x8_2).f2)) = false := decide_eq_false c14
            clear c14
            have H' := Aside0.mk H
            clear H
            have p104 : 0 ≤ (x8_2 : Int) := of_decide_eq_true (by first | (with_reducible assumption) | assumption)
            have q104 : x8_2 < (l1.length : Int) := of_decide_eq_true (by first | (with_reducible assumption) | assumption)
            obtain ⟨ad104, e104, hx104_0, hx104_1, hx104_2⟩ := at_T39 HR1.out x8_2 p104 q104
            cases e104
            replace hx104_0 := (HB.out.cell (World.block_lt_of_cell? w _ hx104_0)).trans hx104_0
            replace hx104_1 := (HB.out.cell (World.block_lt_of_cell? w _ hx104_1)).trans hx104_1
            replace hx104_2 := (HB.out.cell (World.block_lt_of_cell? w _ hx104_2)).trans hx104_2
            replace p104 := eq_true p104
            replace q104 := eq_true q104
            have p105 : 0 ≤ (x8_2 : Int) := of_decide_eq_true (by first | (with_reducible assumption) | assumption)
            have q105 : x8_2 < (l1.length : Int) := of_decide_eq_true (by first | (with_reducible assumption) | assumption)
            obtain ⟨ad105, e105, hx105_0, hx105_1, hx105_2⟩ := at_T39 HR1.out x8_2 p105 q105
            obtain rfl : ad104 = ad105 := (by injection e105)
            replace hx105_0 := (HB.out.cell (World.block_lt_of_cell? w _ hx105_0)).trans hx105_0
            replace hx105_1 := (HB.out.cell (World.block_lt_of_cell? w _ hx105_1)).trans hx105_1
            replace hx105_2 := (HB.out.cell (World.block_lt_of_cell? w _ hx105_2)).trans hx105_2
            replace p105 := eq_true p105
            replace q105 := eq_true q105
            have p106 : 0 ≤ (x8_2 : Int) := of_decide_eq_true (by first | (with_reducible assumption) | assumption)
            have q106 : x8_2 < (l1.length : Int) := of_decide_eq_true (by first | (with_reducible assumption) | assumption)
            obtain ⟨ad106, e106, hx106_0, hx106_1, hx106_2⟩ := at_T39 HR1.out x8_2 p106 q106
            obtain rfl : ad104 = ad106 := (by injection e106)
            replace hx106_0 := (HB.out.cell (World.block_lt_of_cell? w _ hx106_0)).trans hx106_0
            replace hx106_1 := (HB.out.cell (World.block_lt_of_cell? w _ hx106_1)).trans hx106_1
            replace hx106_2 := (HB.out.cell (World.block_lt_of_cell? w _ hx106_2)).trans hx106_2
            replace p106 := eq_true p106
            replace q106 := eq_true q106
            have p107 : 0 ≤ (x8_2 : Int) := of_decide_eq_true (by first | (with_reducible assumption) | assumption)
            have q107 : x8_2 < (l1.length : Int) := of_decide_eq_true (by first | (with_reducible assumption) | assumption)
            obtain ⟨ad107, e107, hx107_0, hx107_1, hx107_2⟩ := at_T39 HR1.out x8_2 p107 q107
            obtain rfl : ad104 = ad107 := (by injection e107)
            replace hx107_0 := (HB.out.cell (World.block_lt_of_cell? w _ hx107_0)).trans hx107_0
            replace hx107_1 := (HB.out.cell (World.block_lt_of_cell? w _ hx107_1)).trans hx107_1
            replace hx107_2 := (HB.out.cell (World.block_lt_of_cell? w _ hx107_2)).trans hx107_2
            replace p107 := eq_true p107
            replace q107 := eq_true q107
            go_wp2
            go_roundg k2
            case measure => have := HJ3.out; have := HK2.out; omega
            case rel => exact ⟨(wrap64 (x8_2 + 1)), (by first | rfl | (simp; done) | (simp [*]; done)), H', ⟨by have := HJ3.out; have := HK2.out; omega⟩, ⟨by (with_reducible repeat (first | apply Kd.R_alloc | apply Kd.R_drewN | apply Kd.R_drew)); exact HO_7.out⟩, ⟨by repeat (first | (with_reducible first | exact HB.out | apply below_alloc | apply pw_below_drewN | apply below_drew1) | exact HB.out)⟩⟩
       ·rw [if_neg c10] at H
        exact absurd H (by simp)
      ·rw [if_neg c9] at H
       have c9b0 : decide (x8_2 < (l1.length : Int)) = false := decide_eq_false c9
       clear c9
       by_cases c15 : 0 ≤ a0
       ·rw [if_pos c15] at H
        have c15b0 := eq_true c15
        have c15b1 : decide (0 ≤ a0) = true := decide_eq_true c15
        clear c15
        by_cases c16 : (a0 : Int).toNat ≤ 281474976710656
        ·rw [if_pos c16] at H
         have c16b0 := eq_true c16
         have c16b1 : decide ((a0 : Int).toNat ≤ 281474976710656) = true := decide_eq_true c16
         clear c16
         obtain ⟨y108, hy108⟩ : ∃ y_ : List Bool, y_ = (List.replicate (a0 : Int).toNat false) := ⟨_, rfl⟩
         replace H : (spec_GcReach.l1 k2 a0 l1 l2 y101 y108 (([] : List Int)) 0) = some r := by first | (rw [hy108]; with_reducible exact H) | (have H2_ := (Option.bind_some _ _).symm.trans H; rw [hy108]; with_reducible exact H2_) | (have H2_ := (Option.bind_some _ _).symm.trans H; with_reducible exact H2_) | with_reducible exact H | (rw [hy108]; exact H) | exact H
         have Ny108 := Aside0.mk hy108
         clear hy108
         obtain ⟨y111, hy111⟩ : ∃ y_ : List Int, y_ = (([] : List Int)) := ⟨_, rfl⟩
         replace H : (spec_GcReach.l1 k2 a0 l1 l2 y101 y108 y111 0) = some r := by first | (rw [hy111]; with_reducible exact H) | (have H2_ := (Option.bind_some _ _).symm.trans H; rw [hy111]; with_reducible exact H2_) | (have H2_ := (Option.bind_some _ _).symm.trans H; with_reducible exact H2_) | with_reducible exact H | (rw [hy111]; exact H) | exact H
         have Ny111 := Aside0.mk hy111
         clear hy111
         have H' := Aside0.mk H
         clear H
         go_wp2_with (first | ((with_reducible refine gate_dst (N := 67) rfl ?_); refine Kd.R_make Kd.bool _ 4 rfl (N := 67) rfl 51 _ _ rfl a0 rfl rfl Try.underlying51 (.bool false) 1 info4 rfl (by decide) (by omega) false (ok := fun _ => True) (okp := fun _ => True) rfl (fun _ hk => hk) trivial (of_decide_eq_true (by first | (with_reducible assumption) | assumption)) (Nat.le_trans (Nat.mul_le_mul_right _ (of_decide_eq_true (by first | (with_reducible assumption) | assumption) : a0.toNat ≤ 281474976710656)) (by omega)) (Below.refl _ _) (Nat.le_refl _) ?_; intro v109 w17 ho18 hb hg_ hnew_; clear hg_ hnew_; (first | rw [← Ny108.out] at ho18 | (simp only [Int.reduceToNat] at ho18; rw [← Ny108.out] at ho18)); have n0_ := Aside0.mk (Kd.R_below (by (with_reducible repeat (first | apply Kd.R_alloc | apply Kd.R_drewN | apply Kd.R_drew)); exact HO_7.out) hb); have n1_ := Aside0.mk (Kd.R_lower ho18 (below_size (by repeat (first | (with_reducible first | exact HB.out | apply below_alloc | apply pw_below_drewN | apply below_drew1) | exact HB.out)))); have n2_ := Aside0.mk (below_step (by repeat (first | (with_reducible first | exact HB.out | apply below_alloc | apply pw_below_drewN | apply below_drew1) | exact HB.out)) hb); clear HO_7; clear HB; have HO_7 := n0_; have HO110 := n1_; have HB := n2_; clear n0_ n1_ n2_; clear hb ho18) | ((with_reducible refine gate_dst (N := 68) rfl ?_); refine Kd.R_lit (Kd.int .i64) _ 2 ?hg (N := 68) ?hd (xs := ([] : List Int)) (inner := []) (ok := fun _ => True) (okp := fun _ => True) ?hr ?hp (fun _ hk => hk) trivial (Below.refl _ _) (Nat.le_refl _) (by simp) ?_; (case hd => rfl); (case hg => rfl); (case hr => first | (go_simp; done) | (go_simp; rfl)); (case hp => exact (Reps.none _ _)); intro v112 w19 ho20 hb hg_ hnew_; clear hg_ hnew_; (first | rw [← Ny111.out] at ho20 | (simp only [Int.reduceToNat] at ho20; rw [← Ny111.out] at ho20)); have n0_ := Aside0.mk (Kd.R_elder' (by (with_reducible repeat (first | apply Kd.R_alloc | apply Kd.R_drewN | apply Kd.R_drew)); exact HO_7.out) (Kd.R_base ho20) hb); have n1_ := Aside0.mk (Kd.R_below (by (with_reducible repeat (first | apply Kd.R_alloc | apply Kd.R_drewN | apply Kd.R_drew)); exact HO110.out) hb); have n2_ := Aside0.mk (Kd.R_lower (Kd.R_new' ho20 (Kd.R_lt (by (with_reducible repeat (first | apply Kd.R_alloc | apply Kd.R_drewN | apply Kd.R_drew)); exact HO_7.out))) (below_size (by repeat (first | (with_reducible first | exact HB.out | apply below_alloc | apply pw_below_drewN | apply below_drew1) | exact HB.out)))); have n3_ := Aside0.mk (below_step (by repeat (first | (with_reducible first | exact HB.out | apply below_alloc | apply pw_below_drewN | apply below_drew1) | exact HB.out)) hb); clear HO_7; clear HO110; clear HB; have HO_7 := n0_; have HO110 := n1_; have HO113 := n2_; have HB := n3_; clear n0_ n1_ n2_ n3_; clear hb ho20))
         go_loopg [11] k2 (fun kq v11 w' => ∃ (x11_3 : Int), v11 = .int .i64 x11_3 ∧ Aside0 (spec_GcReach.l1 kq a0 l1 l2 y101 y108 y111 x11_3 = some r) ∧ Aside0 (kq ≤ k2) ∧ Aside0 (Kd.R (Kd.int .i64) 2 w' w.heap.size (fun k_ => some k_ ≠ (v112 : Value).ownBlock) v102 y101) ∧ Aside0 (Kd.R Kd.bool 4 w' w.heap.size (fun _ => True) v109 y108) ∧ Aside0 (Kd.R (Kd.int .i64) 2 w' w.heap.size (fun k_ => some k_ ≠ (v102 : Value).ownBlock) v112 y111) ∧ Aside0 (Below w.heap.size w w'))
         case atStart => exact ⟨(0), (by first | rfl | (simp; done) | (simp [*]; done)), H', ⟨Nat.le_refl _⟩, ⟨by (with_reducible repeat (first | apply Kd.R_alloc | apply Kd.R_drewN | apply Kd.R_drew)); exact Kd.R_mono HO_7.out (fun _ hk => hk.2)⟩, ⟨by (with_reducible repeat (first | apply Kd.R_alloc | apply Kd.R_drewN | apply Kd.R_drew)); exact HO110.out⟩, ⟨by (with_reducible repeat (first | apply Kd.R_alloc | apply Kd.R_drewN | apply Kd.R_drew)); exact Kd.R_mono HO113.out (fun _ hk => hk.2)⟩, ⟨by repeat (first | (with_reducible first | exact HB.out | apply below_alloc | apply pw_below_drewN | apply below_drew1) | exact HB.out)⟩⟩
         case round =>
          clear H'
          try clear c1
          try clear p1
          try clear q1
          try clear hx1
          try clear c2
          try clear p2
          try clear p6
          try clear c7
          try clear c7b0
          try clear c8
          try clear c9
          try clear c9b0
          try clear c10
          try clear c10b0
          try clear p10
          try clear q10
          try clear hx10
          try clear c11
          try clear c11b0
          try clear c12
          try clear c12b0
          try clear c13
          try clear c13b0
          try clear c14
          try clear c14b0
          try clear c15
          try clear c15b0
          try clear c15b1
          try clear c16
          try clear c16b0
          try clear c16b1
          try clear hx104_0
          try clear hx104_1
          try clear hx104_2
          try clear hx105_0
          try clear hx105_1
          try clear hx105_2
          try clear hx106_0
          try clear hx106_1
          try clear hx106_2
          try clear hx107_0
          try clear hx107_1
          try clear hx107_2
          try clear p104
          try clear p105
          try clear p106
          try clear p107
          try clear p2
          try clear q104
          try clear q105
          try clear q106
          try clear q107
          obtain ⟨x11_3, rfl, HA, HK3, HO_7, HO_9, HO_10, HB⟩ := hrel
          cases gk with
          | zero => exact absurd HA.out (by simp [spec_GcReach.l1])
          | succ k3 =>
           have H := HA.out
           clear HA
           simp only [spec_GcReach.l1] at H
           by_cases c21 : x11_3 < (l2.length : Int)
           ·rw [if_pos c21] at H
            have c21b0 : decide (x11_3 < (l2.length : Int)) = true := decide_eq_true c21
            clear c21
            by_cases c22 : 0 ≤ x11_3
            ·rw [if_pos c22] at H
             have c22b0 : decide (0 ≤ x11_3) = true := decide_eq_true c22
             clear c22
             by_cases c23 : (rd l2 x11_3) < 1
             ·rw [if_pos c23] at H
              have c23b0 : decide ((rd l2 x11_3) < 1) = true := decide_eq_true c23
              clear c23
              obtain rfl := Option.some.inj H
              have p114 : 0 ≤ (x11_3 : Int) := of_decide_eq_true (by first | (with_reducible assumption) | assumption)
              have q114 : x11_3 < (l2.length : Int) := of_decide_eq_true (by first | (with_reducible assumption) | assumption)
              obtain ⟨ad114, e114, hx114_0⟩ := Kd.at_int HR2.out x11_3 p114 q114
              cases e114
              replace hx114_0 := (HB.out.cell (World.block_lt_of_cell? w _ hx114_0)).trans hx114_0
              replace p114 := eq_true p114
              replace q114 := eq_true q114
              go_wp2
              go_ret
              exact ⟨_, by first | rfl | (simp [errW_none, errW_some] <;> rfl) | (simp [*, errW_none, errW_some] <;> rfl), by (with_reducible repeat (first | apply Kd.R_alloc | apply Kd.R_drewN | apply Kd.R_drew)); exact Kd.R_mono HO_7.out (fun _ hk => trivial), by repeat (first | (with_reducible first | exact HB.out | apply below_alloc | apply pw_below_drewN | apply below_drew1) | exact HB.out)⟩
             ·rw [if_neg c23] at H
              have c23b0 : decide ((rd l2 x11_3) < 1) = false := decide_eq_false c23
              clear c23
              by_cases c24 : (rd l2 x11_3) > a0
              ·rw [if_pos c24] at H
               have c24b0 : decide (a0 < (rd l2 x11_3)) = true := decide_eq_true c24
               clear c24
               obtain rfl := Option.some.inj H
               have p114 : 0 ≤ (x11_3 : Int) := of_decide_eq_true (by first | (with_reducible assumption) | assumption)
               have q114 : x11_3 < (l2.length : Int) := of_decide_eq_true (by first | (with_reducible assumption) | assumption)
               obtain ⟨ad114, e114, hx114_0⟩ := Kd.at_int HR2.out x11_3 p114 q114
               cases e114
               replace hx114_0 := (HB.out.cell (World.block_lt_of_cell? w _ hx114_0)).trans hx114_0
               replace p114 := eq_true p114
               replace q114 := eq_true q114
               have p115 : 0 ≤ (x11_3 : Int) := of_decide_eq_true (by first | (with_reducible assumption) | assumption)
               have q115 : x11_3 < (l2.length : Int) := of_decide_eq_true (by first | (with_reducible assumption) | assumption)
               obtain ⟨ad115, e115, hx115_0⟩ := Kd.at_int HR2.out x11_3 p115 q115
               obtain rfl : ad114 = ad115 := (by injection e115)
               replace hx115_0 := (HB.out.cell (World.block_lt_of_cell? w _ hx115_0)).trans hx115_0
               replace p115 := eq_true p115
               replace q115 := eq_true q115
               go_wp2
               go_ret
               exact ⟨_, by first | rfl | (simp [errW_none, errW_some] <;> rfl) | (simp [*, errW_none, errW_some] <;> rfl), by (with_reducible repeat (first | apply Kd.R_alloc | apply Kd.R_drewN | apply Kd.R_drew)); exact Kd.R_mono HO_7.out (fun _ hk => trivial), by repeat (first | (with_reducible first | exact HB.out | apply below_alloc | apply pw_below_drewN | apply below_drew1) | exact HB.out)⟩
              ·rw [if_neg c24] at H
               have c24b0 : decide (a0 < (rd l2 x11_3)) = false := decide_eq_false c24
               clear c24
               have H' := Aside0.mk H
               clear H
               have p114 : 0 ≤ (x11_3 : Int) := of_decide_eq_true (by first | (with_reducible assumption) | assumption)
               have q114 : x11_3 < (l2.length : Int) := of_decide_eq_true (by first | (with_reducible assumption) | assumption)
               obtain ⟨ad114, e114, hx114_0⟩ := Kd.at_int HR2.out x11_3 p114 q114
               cases e114
               replace hx114_0 := (HB.out.cell (World.block_lt_of_cell? w _ hx114_0)).trans hx114_0
               replace p114 := eq_true p114
               replace q114 := eq_true q114
               have p115 : 0 ≤ (x11_3 : Int) := of_decide_eq_true (by first | (with_reducible assumption) | assumption)
               have q115 : x11_3 < (l2.length : Int) := of_decide_eq_true (by first | (with_reducible assumption) | assumption)
               obtain ⟨ad115, e115, hx115_0⟩ := Kd.at_int HR2.out x11_3 p115 q115
               obtain rfl : ad114 = ad115 := (by injection e115)
               replace hx115_0 := (HB.out.cell (World.block_lt_of_cell? w _ hx115_0)).trans hx115_0
               replace p115 := eq_true p115
               replace q115 := eq_true q115
               go_wp2
               go_roundg k3
               case measure => have := HJ3.out; have := HK2.out; have := HK3.out; omega
               case rel => exact ⟨(wrap64 (x11_3 + 1)), (by first | rfl | (simp; done) | (simp [*]; done)), H', ⟨by have := HJ3.out; have := HK2.out; have := HK3.out; omega⟩, ⟨by (with_reducible repeat (first | apply Kd.R_alloc | apply Kd.R_drewN | apply Kd.R_drew)); exact HO_7.out⟩, ⟨by (with_reducible repeat (first | apply Kd.R_alloc | apply Kd.R_drewN | apply Kd.R_drew)); exact HO_9.out⟩, ⟨by (with_reducible repeat (first | apply Kd.R_alloc | apply Kd.R_drewN | apply Kd.R_drew)); exact HO_10.out⟩, ⟨by repeat (first | (with_reducible first | exact HB.out | apply below_alloc | apply pw_below_drewN | apply below_drew1) | exact HB.out)⟩⟩
            ·rw [if_neg c22] at H
             exact absurd H (by simp)
           ·rw [if_neg c21] at H
            have c21b0 : decide (x11_3 < (l2.length : Int)) = false := decide_eq_false c21
            clear c21
            have H' := Aside0.mk H
            clear H
            go_wp2
            go_loopg [10, 12] k3 (fun kq v10 v12 w' => ∃ (x9_4 : List Bool) (x10_4 : List Int) (x12_4 : Int), v12 = .int .i64 x12_4 ∧ Aside0 (spec_GcReach.l2 kq a0 l1 l2 y101 x9_4 x10_4 x12_4 = some r) ∧ Aside0 (kq ≤ k3) ∧ Aside0 (Kd.R (Kd.int .i64) 2 w' w.heap.size (fun k_ => some k_ ≠ (v10 : Value).ownBlock) v102 y101) ∧ Aside0 (Kd.R Kd.bool 4 w' w.heap.size (fun _ => True) v109 x9_4) ∧ Aside0 (Kd.R (Kd.int .i64) 2 w' w.heap.size (fun k_ => some k_ ≠ (v102 : Value).ownBlock) v10 x10_4) ∧ Aside0 (Below w.heap.size w w'))
            case atStart => exact ⟨(y108), (y111), (0), (by first | rfl | (simp; done) | (simp [*]; done)), H', ⟨Nat.le_refl _⟩, ⟨by (with_reducible repeat (first | apply Kd.R_alloc | apply Kd.R_drewN | apply Kd.R_drew)); exact HO_7.out⟩, ⟨by (with_reducible repeat (first | apply Kd.R_alloc | apply Kd.R_drewN | apply Kd.R_drew)); exact HO_9.out⟩, ⟨by (with_reducible repeat (first | apply Kd.R_alloc | apply Kd.R_drewN | apply Kd.R_drew)); exact HO_10.out⟩, ⟨by repeat (first | (with_reducible first | exact HB.out | apply below_alloc | apply pw_below_drewN | apply below_drew1) | exact HB.out)⟩⟩
            case round =>
             clear H'
             try clear c1
             try clear p1
             try clear q1
             try clear hx1
             try clear c2
             try clear p2
             try clear p6
             try clear c7
             try clear c7b0
             try clear c8
             try clear c9
             try clear c9b0
             try clear c10
             try clear c10b0
             try clear p10
             try clear q10
             try clear hx10
             try clear c11
             try clear c11b0
             try clear p11
             try clear q11
             try clear hx11
             try clear c12
             try clear c12b0
             try clear c13
             try clear c13b0
             try clear c14
             try clear c14b0
             try clear c15
             try clear c15b0
             try clear c15b1
             try clear c16
             try clear c16b0
             try clear c16b1
             try clear c21
             try clear c21b0
             try clear c22
             try clear c22b0
             try clear c23
             try clear c23b0
             try clear c24
             try clear c24b0
             try clear hx104_0
             try clear hx104_1
             try clear hx104_2
             try clear hx105_0
             try clear hx105_1
             try clear hx105_2
             try clear hx106_0
             try clear hx106_1
             try clear hx106_2
             try clear hx107_0
             try clear hx107_1
             try clear hx107_2
             try clear hx114_0
             try clear hx115_0
             try clear p1
             try clear p10
             try clear p104
             try clear p105
             try clear p106
             try clear p107
             try clear p114
             try clear p115
             try clear p2
             try clear p6
             try clear q1
             try clear q10
             try clear q104
             try clear q105
             try clear q106
             try clear q107
             try clear q114
             try clear q115
             obtain ⟨x9_4, x10_4, x12_4, rfl, HA, HK4, HO_7, HO_9, HO_10, HB⟩ := hrel
             cases gk with
             | zero => exact absurd HA.out (by simp [spec_GcReach.l2])
             | succ k4 =>
              have H := HA.out
              clear HA
              simp only [spec_GcReach.l2] at H
              by_cases c25 : x12_4 < (l2.length : Int)
              ·rw [if_pos c25] at H
               have c25b0 : decide (x12_4 < (l2.length : Int)) = true := decide_eq_true c25
               clear c25
               by_cases c26 : 0 ≤ x12_4
               ·rw [if_pos c26] at H
                have c26b0 : decide (0 ≤ x12_4) = true := decide_eq_true c26
                clear c26
                obtain ⟨ji27, hji27⟩ : ∃ j_ : Int, (wrap64 ((rd l2 x12_4) - 1)) = j_ := ⟨_, rfl⟩
                replace H : (if 0 ≤ (ji27) then (if (ji27) < (x9_4.length : Int) then (if (rdOf false x9_4 (ji27) = true) then (spec_GcReach.l2 k4 a0 l1 l2 y101 x9_4 x10_4 (wrap64 (x12_4 + 1))) else (if x10_4.length < 17592186044416 then (spec_GcReach.l2 k4 a0 l1 l2 y101 (x9_4.set ((ji27) : Int).toNat true) (x10_4 ++ [rd l2 x12_4]) (wrap64 (x12_4 + 1))) else (none))) else (none)) else (none)) = some r := by first | (rw [hji27] at H; exact H) | (simp only [hji27] at H ⊢; exact H)
                have hji27w : (IntKind.i64.wrap ((rd l2 x12_4) - 1)) = ji27 := (i64_w _).trans hji27
                by_cases c28 : 0 ≤ (ji27)
                ·rw [if_pos c28] at H
                 have c28b0 : decide (0 ≤ (ji27)) = true := decide_eq_true c28
                 clear c28
                 by_cases c29 : (ji27) < (x9_4.length : Int)
                 ·rw [if_pos c29] at H
                  have c29b0 : decide ((ji27) < (x9_4.length : Int)) = true := decide_eq_true c29
                  clear c29
                  obtain ⟨bq30, hbq30⟩ : ∃ b_ : Bool, b_ = (rdOf false x9_4 (ji27)) := ⟨_, rfl⟩
                  replace H : (if (bq30 = true) then (spec_GcReach.l2 k4 a0 l1 l2 y101 x9_4 x10_4 (wrap64 (x12_4 + 1))) else (if x10_4.length < 17592186044416 then (spec_GcReach.l2 k4 a0 l1 l2 y101 (x9_4.set ((ji27) : Int).toNat true) (x10_4 ++ [rd l2 x12_4]) (wrap64 (x12_4 + 1))) else (none))) = some r := by rw [← hbq30] at H; exact H
                  have Nbq30 := Aside0.mk hbq30
                  clear hbq30
                  by_cases c31 : (bq30 = true)
                  ·subst c31
                   have H1 : (spec_GcReach.l2 k4 a0 l1 l2 y101 x9_4 x10_4 (wrap64 (x12_4 + 1))) = some r := by rw [if_pos rfl] at H; exact H
                   clear H
                   have H := H1
                   clear H1
                   have H' := Aside0.mk H
                   clear H
                   have p116 : 0 ≤ (x12_4 : Int) := of_decide_eq_true (by first | (with_reducible assumption) | assumption)
                   have q116 : x12_4 < (l2.length : Int) := of_decide_eq_true (by first | (with_reducible assumption) | assumption)
                   obtain ⟨ad116, e116, hx116_0⟩ := Kd.at_int HR2.out x12_4 p116 q116
                   cases e116
                   replace hx116_0 := (HB.out.cell (World.block_lt_of_cell? w _ hx116_0)).trans hx116_0
                   replace p116 := eq_true p116
                   replace q116 := eq_true q116
                   obtain ⟨Ao32, co32, eo32⟩ := Kd.R_slice HO_9.out
                   subst eo32
                   have p117 : 0 ≤ ((ji27) : Int) := of_decide_eq_true (by first | (with_reducible assumption) | assumption)
                   have q117 : (ji27) < (x9_4.length : Int) := of_decide_eq_true (by first | (with_reducible assumption) | assumption)
                   obtain ⟨ad117, e117, hx117_0⟩ := Kd.at_bool (Kd.R_reads' HO_9.out).2.2 (ji27) p117 q117
                   (try rw [← Nbq30.out] at hx117_0)
                   (try rw [← Nbq30.out] at hw117_0)
                   cases e117
                   replace p117 := eq_true p117
                   replace q117 := eq_true q117
                   go_wp2
                   go_roundg k4
                   case measure => have := HJ3.out; have := HK2.out; have := HK3.out; have := HK4.out; omega
                   case rel => exact ⟨(x9_4), (x10_4), (wrap64 (x12_4 + 1)), (by first | rfl | (simp; done) | (simp [*]; done)), H', ⟨by have := HJ3.out; have := HK2.out; have := HK3.out; have := HK4.out; omega⟩, ⟨by (with_reducible repeat (first | apply Kd.R_alloc | apply Kd.R_drewN | apply Kd.R_drew)); exact HO_7.out⟩, ⟨by (with_reducible repeat (first | apply Kd.R_alloc | apply Kd.R_drewN | apply Kd.R_drew)); exact HO_9.out⟩, ⟨by (with_reducible repeat (first | apply Kd.R_alloc | apply Kd.R_drewN | apply Kd.R_drew)); exact HO_10.out⟩, ⟨by repeat (first | (with_reducible first | exact HB.out | apply below_alloc | apply pw_below_drewN | apply below_drew1) | exact HB.out)⟩⟩
                  ·replace c31 := Bool.eq_false_iff.mpr c31
                   subst c31
                   have H1 : (if x10_4.length < 17592186044416 then (spec_GcReach.l2 k4 a0 l1 l2 y101 (x9_4.set ((ji27) : Int).toNat true) (x10_4 ++ [rd l2 x12_4]) (wrap64 (x12_4 + 1))) else (none)) = some r := by rw [if_neg (show ¬ (false = true) by decide)] at H; exact H
                   clear H
                   have H := H1
                   clear H1
                   obtain ⟨y119, hy119⟩ : ∃ y_ : List Bool, y_ = (x9_4.set ((ji27) : Int).toNat true) := ⟨_, rfl⟩
                   replace H : (if x10_4.length < 17592186044416 then (spec_GcReach.l2 k4 a0 l1 l2 y101 y119 (x10_4 ++ [rd l2 x12_4]) (wrap64 (x12_4 + 1))) else (none)) = some r := by first | (rw [hy119]; with_reducible exact H) | (have H2_ := (Option.bind_some _ _).symm.trans H; rw [hy119]; with_reducible exact H2_) | (have H2_ := (Option.bind_some _ _).symm.trans H; with_reducible exact H2_) | with_reducible exact H | (rw [hy119]; exact H) | exact H
                   have Ny119 := Aside0.mk hy119
                   clear hy119
                   by_cases c34 : x10_4.length < 17592186044416
                   ·rw [if_pos c34] at H
                    have LMc34 := Aside0.mk c34
                    clear c34
                    obtain ⟨y121, hy121⟩ : ∃ y_ : List Int, y_ = (x10_4 ++ [rd l2 x12_4]) := ⟨_, rfl⟩
                    replace H : (spec_GcReach.l2 k4 a0 l1 l2 y101 y119 y121 (wrap64 (x12_4 + 1))) = some r := by first | (rw [hy121]; with_reducible exact H) | (have H2_ := (Option.bind_some _ _).symm.trans H; rw [hy121]; with_reducible exact H2_) | (have H2_ := (Option.bind_some _ _).symm.trans H; with_reducible exact H2_) | with_reducible exact H | (rw [hy121]; exact H) | exact H
                    have Ny121 := Aside0.mk hy121
                    clear hy121
                    have H' := Aside0.mk H
                    clear H
                    have p116 : 0 ≤ (x12_4 : Int) := of_decide_eq_true (by first | (with_reducible assumption) | assumption)
                    have q116 : x12_4 < (l2.length : Int) := of_decide_eq_true (by first | (with_reducible assumption) | assumption)
                    obtain ⟨ad116, e116, hx116_0⟩ := Kd.at_int HR2.out x12_4 p116 q116
                    cases e116
                    replace hx116_0 := (HB.out.cell (World.block_lt_of_cell? w _ hx116_0)).trans hx116_0
                    replace p116 := eq_true p116
                    replace q116 := eq_true q116
                    obtain ⟨Ao35, co35, eo35⟩ := Kd.R_slice HO_9.out
                    subst eo35
                    have p117 : 0 ≤ ((ji27) : Int) := of_decide_eq_true (by first | (with_reducible assumption) | assumption)
                    have q117 : (ji27) < (x9_4.length : Int) := of_decide_eq_true (by first | (with_reducible assumption) | assumption)
                    obtain ⟨ad117, e117, hx117_0⟩ := Kd.at_bool (Kd.R_reads' HO_9.out).2.2 (ji27) p117 q117
                    (try rw [← Nbq30.out] at hx117_0)
                    (try rw [← Nbq30.out] at hw117_0)
                    cases e117
                    replace p117 := eq_true p117
                    replace q117 := eq_true q117
                    have p118 : 0 ≤ (x12_4 : Int) := of_decide_eq_true (by first | (with_reducible assumption) | assumption)
                    have q118 : x12_4 < (l2.length : Int) := of_decide_eq_true (by first | (with_reducible assumption) | assumption)
                    obtain ⟨ad118, e118, hx118_0⟩ := Kd.at_int HR2.out x12_4 p118 q118
                    obtain rfl : ad116 = ad118 := (by injection e118)
                    replace hx118_0 := (HB.out.cell (World.block_lt_of_cell? w _ hx118_0)).trans hx118_0
                    replace p118 := eq_true p118
                    replace q118 := eq_true q118
                    have p33 : 0 ≤ ((ji27) : Int) := of_decide_eq_true (by first | (with_reducible assumption) | assumption)
                    have q33 : ((ji27) : Int) < ((x9_4.length : Int) : Int) := of_decide_eq_true (by first | (with_reducible assumption) | assumption)
                    obtain ⟨go33, co33, eo33, gb33, gl33, cl33, HG33⟩ := Kd.R_form HO_9.out (by omega)
                    (first | cases eo33 | (injection eo33 with ea_ en_ ec_; (first | subst ea_ | (injection ea_ with ea_; subst ea_)); subst ec_; clear en_))
                    have GB33 := Aside0.mk gb33
                    have GG33 := Aside0.mk HG33
                    clear gb33 gl33 HG33
                    (first | simp only [add_plain] at hx117_0 | skip)
                    obtain ⟨hx33_0, hf33_0⟩ := Kd.R_celln false HO_9.out ((ji27) : Int) p33 q33
                    replace p33 := eq_true p33
                    replace q33 := eq_true q33
                    have HP36 := Kd.R_putg HO_9.out ((ji27) : Int) true
                    go_wp2_with (first | ((with_reducible refine gate_store (t := 4) (p := 110) rfl ?_); refine store_event (t := 4) (p := 110) (v := ?vo_w37) (w1 := (wr.setCell ⟨go33, ((ji27) : Int).toNat, none⟩ (.bool true))) ?hg ?ho ?hn ?hr ?_; (case ho => rfl); (case hg => rfl); (case hn => rfl); (case hr => first | (go_simp; done) | (go_simp; rfl)); intro w37 hw; have hg : wr.grownBy w37 (some go33) := (by rw [hw]; exact HP36.2); have hp_ : Kd.R Kd.bool 4 w37 w.heap.size (fun _ => True) (.slice (some ⟨go33, 0, none⟩) x9_4.length co35) y119 := (by rw [hw, Ny119.out]; exact HP36.1); clear HP36; have n0_ := Aside0.mk (Kd.R_over' (v := (.slice (some ⟨go33, 0, none⟩) x9_4.length co35)) (by (with_reducible repeat (first | apply Kd.R_alloc | apply Kd.R_drewN | apply Kd.R_drew)); exact HO_7.out) (Kd.R_typed HO_9.out) (by decide) hg); have n1_ := Aside0.mk (hp_); have n2_ := Aside0.mk (Kd.R_over' (v := (.slice (some ⟨go33, 0, none⟩) x9_4.length co35)) (by (with_reducible repeat (first | apply Kd.R_alloc | apply Kd.R_drewN | apply Kd.R_drew)); exact HO_10.out) (Kd.R_typed HO_9.out) (by decide) hg); have n3_ := Aside0.mk ((by rw [hw]; exact below_set (HB.out) GB33.out : Below w.heap.size w w37)); clear HO_7; clear HO_9; clear HO_10; clear HB; have HO_7 := n0_; have HO_9 := n1_; have HO_10 := n2_; have HB := n3_; clear n0_ n1_ n2_ n3_; clear hg hw hp_; have p120 : 0 ≤ (x12_4 : Int) := of_decide_eq_true (by first | (with_reducible assumption) | assumption); have q120 : x12_4 < (l2.length : Int) := of_decide_eq_true (by first | (with_reducible assumption) | assumption); obtain ⟨ad120, e120, hx120_0⟩ := Kd.at_int HR2.out x12_4 p120 q120; obtain rfl : ad116 = ad120 := (by injection e120); replace hx120_0 := (HB.out.cell (World.block_lt_of_cell? w _ hx120_0)).trans hx120_0; replace p120 := eq_true p120; replace q120 := eq_true q120) | ((with_reducible refine gate_builtin (b := .append) (xs := #[.tmp 111, .tmp 116]) rfl ?_); at_builtin; refine Kd.R_append (Kd.int .i64) (w0 := w) w.heap.size rfl (.tmp 111) (.tmp 116) 23 2 (.int .i64 0) 8 rfl Try.underlying23 info2 rfl (by decide) (by omega) u10 x10_4 (rd l2 x12_4) [.int .i64 (rd l2 x12_4)] (fun k_ => some k_ ≠ (v102 : Value).ownBlock) (fun _ => False) rfl rfl ?aP (fun _ hk => hk.elim) ?aF ?aO ?aB ?aS ?aL ?_; (case aP => exact rfl); (case aB => exact (by repeat (first | (with_reducible first | exact HB.out | apply below_alloc | apply pw_below_drewN | apply below_drew1) | exact HB.out))); (case aF => exact (fun k_ hk => Kd.fresh' (Kd.R_lt (by (with_reducible repeat (first | apply Kd.R_alloc | apply Kd.R_drewN | apply Kd.R_drew)); exact HO_7.out)) k_ hk)); (case aO => exact (by (with_reducible repeat (first | apply Kd.R_alloc | apply Kd.R_drewN | apply Kd.R_drew)); exact HO_10.out)); (case aS => exact (below_size (by repeat (first | (with_reducible first | exact HB.out | apply below_alloc | apply pw_below_drewN | apply below_drew1) | exact HB.out)))); (case aL => have := LMc34.out; omega); intro v122 w38 ho hb hg hat; rw [← Ny121.out] at ho; have n0_ := Aside0.mk (Kd.R_after (ok := (fun _ => True)) (by (with_reducible repeat (first | apply Kd.R_alloc | apply Kd.R_drewN | apply Kd.R_drew)); exact Kd.R_mono HO_7.out (fun _ hk => ⟨trivial, hk⟩)) hg hat); have n1_ := Aside0.mk (Kd.R_over' (by (with_reducible repeat (first | apply Kd.R_alloc | apply Kd.R_drewN | apply Kd.R_drew)); exact HO_9.out) (Kd.R_typed (by (with_reducible repeat (first | apply Kd.R_alloc | apply Kd.R_drewN | apply Kd.R_drew)); exact HO_10.out)) (by decide) hg); have n2_ := Aside0.mk (hb); have n3_ := Aside0.mk (ho); clear HO_7; clear HO_9; clear HB; clear HO_10; have HO_7 := n0_; have HO_9 := n1_; have HB := n2_; have HO123 := n3_; clear n0_ n1_ n2_ n3_; clear ho hb hg hat))
                    go_roundg k4
                    case measure => have := HJ3.out; have := HK2.out; have := HK3.out; have := HK4.out; omega
                    case rel => exact ⟨(y119), (y121), (wrap64 (x12_4 + 1)), (by first | rfl | (simp; done) | (simp [*]; done)), H', ⟨by have := HJ3.out; have := HK2.out; have := HK3.out; have := HK4.out; omega⟩, ⟨by (with_reducible repeat (first | apply Kd.R_alloc | apply Kd.R_drewN | apply Kd.R_drew)); exact Kd.R_mono HO_7.out (fun _ hk => hk.2)⟩, ⟨by (with_reducible repeat (first | apply Kd.R_alloc | apply Kd.R_drewN | apply Kd.R_drew)); exact HO_9.out⟩, ⟨by (with_reducible repeat (first | apply Kd.R_alloc | apply Kd.R_drewN | apply Kd.R_drew)); exact HO123.out⟩, ⟨by repeat (first | (with_reducible first | exact HB.out | apply below_alloc | apply pw_below_drewN | apply below_drew1) | exact HB.out)⟩⟩
                   ·rw [if_neg c34] at H
                    exact absurd H (by simp)
                 ·rw [if_neg c29] at H
                  exact absurd H (by simp)
                ·rw [if_neg c28] at H
                 exact absurd H (by simp)
               ·rw [if_neg c26] at H
                exact absurd H (by simp)
              ·rw [if_neg c25] at H
               have c25b0 : decide (x12_4 < (l2.length : Int)) = false := decide_eq_false c25
               clear c25
               by_cases c39 : 0 ≤ a0
               ·rw [if_pos c39] at H
                have c39b0 := eq_true c39
                have c39b1 : decide (0 ≤ a0) = true := decide_eq_true c39
                clear c39
                by_cases c40 : (a0 : Int).toNat ≤ 11728124029610
                ·rw [if_pos c40] at H
                 have c40b0 := eq_true c40
                 have c40b1 : decide ((a0 : Int).toNat ≤ 11728124029610) = true := decide_eq_true c40
                 clear c40
                 obtain ⟨y124, hy124⟩ : ∃ y_ : List (List Int), y_ = (List.replicate (a0 : Int).toNat []) := ⟨_, rfl⟩
                 replace H : (spec_GcReach.l3 k4 a0 l1 y101 x9_4 x10_4 y124 0) = some r := by first | (rw [hy124]; with_reducible exact H) | (have H2_ := (Option.bind_some _ _).symm.trans H; rw [hy124]; with_reducible exact H2_) | (have H2_ := (Option.bind_some _ _).symm.trans H; with_reducible exact H2_) | with_reducible exact H | (rw [hy124]; exact H) | exact H
                 have Ny124 := Aside0.mk hy124
                 clear hy124
                 have H' := Aside0.mk H
                 clear H
                 go_wp2_with (first | ((with_reducible refine gate_dst (N := 119) rfl ?_); refine Kd.S_make (Kd.slice 2 (Kd.int .i64)) _ 23 rfl (N := 119) rfl 52 _ _ rfl a0 rfl rfl Try.underlying52 (.slice none 0 0) 24 info23 rfl (by decide) (by omega) [] (ok := fun _ => True) (okp := fun _ => True) ⟨_, rfl, Kd.R_nil _ _ _ _ _⟩ (fun _ hk => hk) trivial (of_decide_eq_true (by first | (with_reducible assumption) | assumption)) (Nat.le_trans (Nat.mul_le_mul_right _ (of_decide_eq_true (by first | (with_reducible assumption) | assumption) : a0.toNat ≤ 11728124029610)) (by omega)) (Below.refl _ _) (Nat.le_refl _) ?_; intro v125 w41 ho42 hb hg_ hnew_; clear hg_ hnew_; (first | rw [← Ny124.out] at ho42 | (simp only [Int.reduceToNat] at ho42; rw [← Ny124.out] at ho42)); have n0_ := Aside0.mk (Kd.R_below (by (with_reducible repeat (first | apply Kd.R_alloc | apply Kd.R_drewN | apply Kd.R_drew)); exact HO_7.out) hb); have n1_ := Aside0.mk (Kd.R_below (by (with_reducible repeat (first | apply Kd.R_alloc | apply Kd.R_drewN | apply Kd.R_drew)); exact HO_9.out) hb); have n2_ := Aside0.mk (Kd.R_below (by (with_reducible repeat (first | apply Kd.R_alloc | apply Kd.R_drewN | apply Kd.R_drew)); exact HO_10.out) hb); have n3_ := Aside0.mk (Kd.S_lower (Kd.S_new' (Kd.S_new' ho42 (Kd.R_lt (by (with_reducible repeat (first | apply Kd.R_alloc | apply Kd.R_drewN | apply Kd.R_drew)); exact HO_7.out))) (Kd.R_lt (by (with_reducible repeat (first | apply Kd.R_alloc | apply Kd.R_drewN | apply Kd.R_drew)); exact HO_10.out))) (below_size (by repeat (first | (with_reducible first | exact HB.out | apply below_alloc | apply pw_below_drewN | apply below_drew1) | exact HB.out)))); have n4_ := Aside0.mk (below_step (by repeat (first | (with_reducible first | exact HB.out | apply below_alloc | apply pw_below_drewN | apply below_drew1) | exact HB.out)) hb); clear HO_7; clear HO_9; clear HO_10; clear HB; have HO_7 := n0_; have HO_9 := n1_; have HO_10 := n2_; have HO126 := n3_; have HB := n4_; clear n0_ n1_ n2_ n3_ n4_; clear hb ho42))
                 go_loopg [14] k4 (fun kq v14 w' => ∃ (x13_5 : List (List Int)) (x14_5 : Int), v14 = .int .i64 x14_5 ∧ Aside0 (spec_GcReach.l3 kq a0 l1 y101 x9_4 x10_4 x13_5 x14_5 = some r) ∧ Aside0 (kq ≤ k4) ∧ Aside0 (Kd.R (Kd.int .i64) 2 w' w.heap.size (fun k_ => some k_ ≠ (u10 : Value).ownBlock) v102 y101) ∧ Aside0 (Kd.R Kd.bool 4 w' w.heap.size (fun _ => True) v109 x9_4) ∧ Aside0 (Kd.R (Kd.int .i64) 2 w' w.heap.size (fun k_ => some k_ ≠ (v102 : Value).ownBlock) u10 x10_4) ∧ Aside0 (Kd.S (Kd.slice 2 (Kd.int .i64)) 23 w' w.heap.size (fun k_ => some k_ ≠ (v102 : Value).ownBlock ∧ some k_ ≠ (u10 : Value).ownBlock) v125 x13_5) ∧ Aside0 (Below w.heap.size w w'))
                 case atStart => exact ⟨(y124), (0), (by first | rfl | (simp; done) | (simp [*]; done)), H', ⟨Nat.le_refl _⟩, ⟨by (with_reducible repeat (first | apply Kd.R_alloc | apply Kd.R_drewN | apply Kd.R_drew)); exact HO_7.out⟩, ⟨by (with_reducible repeat (first | apply Kd.R_alloc | apply Kd.R_drewN | apply Kd.R_drew)); exact HO_9.out⟩, ⟨by (with_reducible repeat (first | apply Kd.R_alloc | apply Kd.R_drewN | apply Kd.R_drew)); exact HO_10.out⟩, ⟨by (with_reducible repeat (first | apply Kd.S_alloc | apply Kd.S_drewN | apply Kd.S_drew)); exact Kd.S_mono HO126.out (fun _ hk => ⟨hk.1.2, hk.2⟩)⟩, ⟨by repeat (first | (with_reducible first | exact HB.out | apply below_alloc | apply pw_below_drewN | apply below_drew1) | exact HB.out)⟩⟩
                 case round =>
                  clear H'
                  try clear c1
                  try clear p1
                  try clear q1
                  try clear hx1
                  try clear c2
                  try clear p2
                  try clear c3
                  try clear p3
                  try clear q3
                  try clear hx3
                  try clear hf3
                  try clear c4
                  try clear p6
                  try clear c7
                  try clear c7b0
                  try clear c8
                  try clear c9
                  try clear c9b0
                  try clear c10
                  try clear c10b0
                  try clear p10
                  try clear q10
                  try clear hx10
                  try clear c11
                  try clear c11b0
                  try clear p11
                  try clear q11
                  try clear hx11
                  try clear c12
                  try clear c12b0
                  try clear p12
                  try clear q12
                  try clear hx12
                  try clear c13
                  try clear c13b0
                  try clear c14
                  try clear c14b0
                  try clear c15
                  try clear c15b0
                  try clear c15b1
                  try clear c16
                  try clear c16b0
                  try clear c16b1
                  try clear c21
                  try clear c21b0
                  try clear c22
                  try clear c22b0
                  try clear c23
                  try clear c23b0
                  try clear c24
                  try clear c24b0
                  try clear c25
                  try clear c25b0
                  try clear c26
                  try clear c26b0
                  try clear c28
                  try clear c28b0
                  try clear c29
                  try clear c29b0
                  try clear q30
                  try clear c31
                  try clear p33
                  try clear q33
                  try clear hx33
                  try clear hf33
                  try clear c34
                  try clear c39
                  try clear c39b0
                  try clear c39b1
                  try clear c40
                  try clear c40b0
                  try clear c40b1
                  try clear hx104_0
                  try clear hx104_1
                  try clear hx104_2
                  try clear hx105_0
                  try clear hx105_1
                  try clear hx105_2
                  try clear hx106_0
                  try clear hx106_1
                  try clear hx106_2
                  try clear hx107_0
                  try clear hx107_1
                  try clear hx107_2
                  try clear hx114_0
                  try clear hx115_0
                  try clear hx116_0
                  try clear hx117_0
                  try clear hx118_0
                  try clear hx120_0
                  try clear hx33_0
                  try clear p1
                  try clear p10
                  try clear p104
                  try clear p105
                  try clear p106
                  try clear p107
                  try clear p11
                  try clear p114
                  try clear p115
                  try clear p116
                  try clear p117
                  try clear p118
                  try clear p120
                  try clear p2
                  try clear p33
                  try clear p6
                  try clear q1
                  try clear q10
                  try clear q104
                  try clear q105
                  try clear q106
                  try clear q107
                  try clear q11
                  try clear q114
                  try clear q115
                  try clear q116
                  try clear q117
                  try clear q118
                  try clear q120
                  try clear q33
                  obtain ⟨x13_5, x14_5, rfl, HA, HK5, HO_7, HO_9, HO_10, HO_13, HB⟩ := hrel
                  cases gk with
                  | zero => exact absurd HA.out (by simp [spec_GcReach.l3])
                  | succ k5 =>
                   have H := HA.out
                   clear HA
                   simp only [spec_GcReach.l3] at H
                   by_cases c43 : x14_5 < (l1.length : Int)
                   ·rw [if_pos c43] at H
                    have c43b0 : decide (x14_5 < (l1.length : Int)) = true := decide_eq_true c43
                    clear c43
                    by_cases c44 : 0 ≤ x14_5
                    ·rw [if_pos c44] at H
                     have c44b0 : decide (0 ≤ x14_5) = true := decide_eq_true c44
                     clear c44
                     obtain ⟨ji45, hji45⟩ : ∃ j_ : Int, (wrap64 (((rd_T39 l1 x14_5).f1) - 1)) = j_ := ⟨_, rfl⟩
                     replace H : (if 0 ≤ (ji45) then (if (ji45) < (x13_5.length : Int) then (if (rd_L3 x13_5 (ji45)).length < 17592186044416 then (spec_GcReach.l3 k5 a0 l1 y101 x9_4 x10_4 (x13_5.set ((ji45) : Int).toNat ((rd_L3 x13_5 (ji45)) ++ [(rd_T39 l1 x14_5).f2])) (wrap64 (x14_5 + 1))) else (none)) else (none)) else (none)) = some r := by first | (rw [hji45] at H; exact H) | (simp only [hji45] at H ⊢; exact H)
                     have hji45w : (IntKind.i64.wrap (((rd_T39 l1 x14_5).f1) - 1)) = ji45 := (i64_w _).trans hji45
                     by_cases c46 : 0 ≤ (ji45)
                     ·rw [if_pos c46] at H
                      have c46b0 : decide (0 ≤ (ji45)) = true := decide_eq_true c46
                      clear c46
                      by_cases c47 : (ji45) < (x13_5.length : Int)
                      ·rw [if_pos c47] at H
                       have c47b0 : decide ((ji45) < (x13_5.length : Int)) = true := decide_eq_true c47
                       clear c47
                       by_cases c48 : (rd_L3 x13_5 (ji45)).length < 17592186044416
                       ·rw [if_pos c48] at H
                        have LMc48 := Aside0.mk c48
                        clear c48
                        obtain ⟨y131, hy131⟩ : ∃ y_ : List Int, y_ = ((rd_L3 x13_5 (ji45)) ++ [(rd_T39 l1 x14_5).f2]) := ⟨_, rfl⟩
                        replace H : (spec_GcReach.l3 k5 a0 l1 y101 x9_4 x10_4 (x13_5.set ((ji45) : Int).toNat y131) (wrap64 (x14_5 + 1))) = some r := by first | (rw [hy131]; with_reducible exact H) | (have H2_ := (Option.bind_some _ _).symm.trans H; rw [hy131]; with_reducible exact H2_) | (have H2_ := (Option.bind_some _ _).symm.trans H; with_reducible exact H2_) | with_reducible exact H | (rw [hy131]; exact H) | exact H
                        have Ny131 := Aside0.mk hy131
                        clear hy131
                        obtain ⟨y134, hy134⟩ : ∃ y_ : List (List Int), y_ = (x13_5.set ((ji45) : Int).toNat y131) := ⟨_, rfl⟩
                        replace H : (spec_GcReach.l3 k5 a0 l1 y101 x9_4 x10_4 y134 (wrap64 (x14_5 + 1))) = some r := by first | (rw [hy134]; with_reducible exact H) | (have H2_ := (Option.bind_some _ _).symm.trans H; rw [hy134]; with_reducible exact H2_) | (have H2_ := (Option.bind_some _ _).symm.trans H; with_reducible exact H2_) | with_reducible exact H | (rw [hy134]; exact H) | exact H
                        have Ny134 := Aside0.mk hy134
                        clear hy134
                        have H' := Aside0.mk H
                        clear H
                        try go_wp2
                        have n0_ := Aside0.mk (Kd.R_drew HO_7.out)
                        have n1_ := Aside0.mk (Kd.R_drew HO_9.out)
                        have n2_ := Aside0.mk (Kd.R_drew HO_10.out)
                        have n3_ := Aside0.mk (Kd.S_drew HO_13.out)
                        have n4_ := Aside0.mk (below_drew1 HB.out)
                        clear HO_7
                        clear HO_9
                        clear HO_10
                        clear HO_13
                        clear HB
                        have HO_7 := n0_
                        have HO_9 := n1_
                        have HO_10 := n2_
                        have HO_13 := n3_
                        have HB := n4_
                        clear n0_ n1_ n2_ n3_ n4_
                        have p127 : 0 ≤ (x14_5 : Int) := of_decide_eq_true (by first | (with_reducible assumption) | assumption)
                        have q127 : x14_5 < (l1.length : Int) := of_decide_eq_true (by first | (with_reducible assumption) | assumption)
                        obtain ⟨ad127, e127, hx127_0, hx127_1, hx127_2⟩ := at_T39 HR1.out x14_5 p127 q127
                        have hw127_2 := hx127_2
                        have hw127_1 := hx127_1
                        have hw127_0 := hx127_0
                        cases e127
                        replace hx127_0 := (HB.out.cell (World.block_lt_of_cell? w _ hx127_0)).trans hx127_0
                        replace hx127_1 := (HB.out.cell (World.block_lt_of_cell? w _ hx127_1)).trans hx127_1
                        replace hx127_2 := (HB.out.cell (World.block_lt_of_cell? w _ hx127_2)).trans hx127_2
                        replace p127 := eq_true p127
                        replace q127 := eq_true q127
                        have p128 : 0 ≤ (x14_5 : Int) := of_decide_eq_true (by first | (with_reducible assumption) | assumption)
                        have q128 : x14_5 < (l1.length : Int) := of_decide_eq_true (by first | (with_reducible assumption) | assumption)
                        obtain ⟨ad128, e128, hx128_0, hx128_1, hx128_2⟩ := at_T39 HR1.out x14_5 p128 q128
                        have hw128_2 := hx128_2
                        have hw128_1 := hx128_1
                        have hw128_0 := hx128_0
                        obtain rfl : ad127 = ad128 := (by injection e128)
                        replace hx128_0 := (HB.out.cell (World.block_lt_of_cell? w _ hx128_0)).trans hx128_0
                        replace hx128_1 := (HB.out.cell (World.block_lt_of_cell? w _ hx128_1)).trans hx128_1
                        replace hx128_2 := (HB.out.cell (World.block_lt_of_cell? w _ hx128_2)).trans hx128_2
                        replace p128 := eq_true p128
                        replace q128 := eq_true q128
                        obtain ⟨Ao51, co51, eo51⟩ := Kd.S_slice HO_13.out
                        (first | subst eo51 | (injection eo51 with f1_ f2_ f3_; have f4_ := f1_.symm; have f5_ := f3_.symm; clear f1_ f2_ f3_; subst f4_; subst f5_))
                        have p129 : 0 ≤ ((ji45) : Int) := of_decide_eq_true (by first | (with_reducible assumption) | assumption)
                        have q129 : (ji45) < (x13_5.length : Int) := of_decide_eq_true (by first | (with_reducible assumption) | assumption)
                        obtain ⟨ad129, A129_0, c129_0, e129, hx129_0, hl129_0, hi129_0⟩ := at_L3 (Kd.S_reads' HO_13.out).2.2 (ji45) p129 q129
                        cases e129
                        obtain ⟨ce129, hce129, hMe129, hcc129⟩ := Kd.S_get HO_13.out [] (ji45) p129 (by first | exact q129 | exact of_decide_eq_true (by first | (with_reducible assumption) | assumption) | (have e_ := (Kd.S_reads' HO_13.out).1; omega))
                        obtain ⟨ve129_0, rfl, ge129_0⟩ := hMe129
                        have hv129_0 := hcc129 0 _ rfl
                        rw [Nat.add_zero, show ((Kd.slice 2 (Kd.int .i64))).sz = 1 from rfl, Nat.mul_one] at hv129_0
                        replace hv129_0 := Option.some.inj (hv129_0.symm.trans hx129_0)
                        rw [hv129_0] at ge129_0
                        have HL129_0 := Aside0.mk (show Kd.R (Kd.int .i64) 2 _ _ _ _ (rd_L3 x13_5 (ji45)) from ge129_0)
                        clear hv129_0 ge129_0
                        have HX129_0 := Aside0.mk hx129_0
                        clear hcc129 hce129
                        have HR129_0 := Aside0.mk hi129_0
                        have HC129_0 := Aside0.mk hl129_0
                        clear hi129_0 hl129_0
                        replace p129 := eq_true p129
                        replace q129 := eq_true q129
                        have p130 : 0 ≤ (x14_5 : Int) := of_decide_eq_true (by first | (with_reducible assumption) | assumption)
                        have q130 : x14_5 < (l1.length : Int) := of_decide_eq_true (by first | (with_reducible assumption) | assumption)
                        obtain ⟨ad130, e130, hx130_0, hx130_1, hx130_2⟩ := at_T39 HR1.out x14_5 p130 q130
                        have hw130_2 := hx130_2
                        have hw130_1 := hx130_1
                        have hw130_0 := hx130_0
                        obtain rfl : ad127 = ad130 := (by injection e130)
                        replace hx130_0 := (HB.out.cell (World.block_lt_of_cell? w _ hx130_0)).trans hx130_0
                        replace hx130_1 := (HB.out.cell (World.block_lt_of_cell? w _ hx130_1)).trans hx130_1
                        replace hx130_2 := (HB.out.cell (World.block_lt_of_cell? w _ hx130_2)).trans hx130_2
                        replace p130 := eq_true p130
                        replace q130 := eq_true q130
                        obtain ⟨go52, co52, eo52, gb52, gl52, cl52, HG52⟩ := Kd.S_form HO_13.out (by have h_ : ((ji45) : Int) < ((x13_5.length : Int) : Int) := of_decide_eq_true (by first | (with_reducible assumption) | assumption); have h2_ : 0 ≤ ((ji45) : Int) := (of_decide_eq_true (by first | (with_reducible assumption) | assumption)); omega)
                        (first | cases eo52 | (injection eo52 with ea_ en_ ec_; (first | subst ea_ | (injection ea_ with ea_; subst ea_)); subst ec_; clear en_))
                        have GB52 := Aside0.mk gb52
                        have GG52 := Aside0.mk HG52
                        clear gb52 gl52 HG52
                        (first | simp only [add_plain] at hx129_0 | skip)
                        obtain ⟨oki52, ce52, hcl52, hM52, hcc52, _, _, hH52⟩ := Kd.S_elem HO_13.out [] ((ji45) : Int) (of_decide_eq_true (by first | (with_reducible assumption) | assumption)) (by have h_ : ((ji45) : Int) < ((x13_5.length : Int) : Int) := of_decide_eq_true (by first | (with_reducible assumption) | assumption); first | exact h_ | (have e_ := (Kd.S_reads' HO_13.out).1; omega) | simpa using h_)
                        obtain ⟨ve52_0, rfl, ge52_0⟩ := hM52
                        have hv52 := hcc52 0 _ rfl
                        have hX52 := HX129_0.out
                        (try simp only [add_plain] at hX52)
                        (try simp only [Nat.add_zero] at hv52)
                        (try rw [show ((Kd.slice 2 (Kd.int .i64))).sz = 1 from rfl, Nat.mul_one] at hv52)
                        replace hv52 := Option.some.inj (hv52.symm.trans hX52)
                        subst hv52
                        clear hX52 hcc52 hcl52
                        have UU52 := Aside0.mk (show Kd.R (Kd.int .i64) 2 _ w.heap.size oki52 (.slice A129_0 (rd_L3 x13_5 (ji45)).length c129_0) (rd_L3 x13_5 (ji45)) from ge52_0)
                        have HH52 := Aside0.mk hH52
                        have HN52 := Aside0.mk (Kd.S_reads' HO_13.out).1
                        clear hH52 ge52_0
                        refine start_ (n := 25) (S := fun w' => w'.cell? (ad127.add ((x14_5).toNat * 3)) = some (.int .i64 ((rd_T39 l1 x14_5).f0)) ∧ w'.cell? ⟨(ad127.add ((x14_5).toNat * 3)).block, (ad127.add ((x14_5).toNat * 3)).off + 1, none⟩ = some (.int .i64 ((rd_T39 l1 x14_5).f1)) ∧ w'.cell? ⟨(ad127.add ((x14_5).toNat * 3)).block, (ad127.add ((x14_5).toNat * 3)).off + 2, none⟩ = some (.int .i64 ((rd_T39 l1 x14_5).f2)) ∧ w'.cell? (ad127.add ((x14_5).toNat * 3)) = some (.int .i64 ((rd_T39 l1 x14_5).f0)) ∧ w'.cell? ⟨(ad127.add ((x14_5).toNat * 3)).block, (ad127.add ((x14_5).toNat * 3)).off + 1, none⟩ = some (.int .i64 ((rd_T39 l1 x14_5).f1)) ∧ w'.cell? ⟨(ad127.add ((x14_5).toNat * 3)).block, (ad127.add ((x14_5).toNat * 3)).off + 2, none⟩ = some (.int .i64 ((rd_T39 l1 x14_5).f2)) ∧ w'.cell? ⟨go52, ((ji45)).toNat, none⟩ = some (.slice A129_0 (rd_L3 x13_5 (ji45)).length c129_0) ∧ w'.cell? (ad127.add ((x14_5).toNat * 3)) = some (.int .i64 ((rd_T39 l1 x14_5).f0)) ∧ w'.cell? ⟨(ad127.add ((x14_5).toNat * 3)).block, (ad127.add ((x14_5).toNat * 3)).off + 1, none⟩ = some (.int .i64 ((rd_T39 l1 x14_5).f1)) ∧ w'.cell? ⟨(ad127.add ((x14_5).toNat * 3)).block, (ad127.add ((x14_5).toNat * 3)).off + 2, none⟩ = some (.int .i64 ((rd_T39 l1 x14_5).f2))) (ds := [24]) #[false, false, false, false, false, false, false, false, false, false, false, false, false, false, false, false, false, false, false, false, false, false, false, false, false] (by kernel_rfl) rfl rfl ⟨((HB.out.cell (World.block_lt_of_cell? w _ hw127_0)).trans hw127_0), ((HB.out.cell (World.block_lt_of_cell? w _ hw127_1)).trans hw127_1), ((HB.out.cell (World.block_lt_of_cell? w _ hw127_2)).trans hw127_2), ((HB.out.cell (World.block_lt_of_cell? w _ hw128_0)).trans hw128_0), ((HB.out.cell (World.block_lt_of_cell? w _ hw128_1)).trans hw128_1), ((HB.out.cell (World.block_lt_of_cell? w _ hw128_2)).trans hw128_2), hx129_0, ((HB.out.cell (World.block_lt_of_cell? w _ hw130_0)).trans hw130_0), ((HB.out.cell (World.block_lt_of_cell? w _ hw130_1)).trans hw130_1), ((HB.out.cell (World.block_lt_of_cell? w _ hw130_2)).trans hw130_2)⟩ (fun hHeld => ?_); refine with_tabW spec_GcReach.tab26 spec_GcReach.bits26 (fun HT_ HW_ => ?_)
                        generalize wr.drew = w50 at HO_7 HO_9 HO_10 HO_13 HB GG52 HH52 HL129_0 HR129_0 HX129_0 UU52 hx127_0 hx127_1 hx127_2 hx128_0 hx128_1 hx128_2 hx129_0 hx130_0 hx130_1 hx130_2 hHeld ⊢
                        refine pure_ (i := 0) (N := some 126) (v := ?_) (a' := ?_) #[true, false, false, false, false, false, false, false, false, false, false, false, false, false, false, false, false, false, false, false, false, false, false, false, false] rfl rfl (any_of HT_.out (by kernel_rfl)) (fun _ _ _ h => h) (Or.inl ⟨by rfl, ?_⟩) ?_ ?_
                        rotate_left
                        ·intro w'
                         go_simp
                         with_reducible rfl
                        rotate_left
                        ·simp only [Act.put, List.setIfInBounds_toArray, List.set_cons_zero, List.set_cons_succ, i64_w, i32_w]
                         rfl
                        refine pure_ (i := 1) (N := some 127) (v := ?_) (a' := ?_) #[true, true, false, false, false, false, false, false, false, false, false, false, false, false, false, false, false, false, false, false, false, false, false, false, false] rfl rfl (any_of HT_.out (by kernel_rfl)) (fun _ _ _ h => h) (Or.inl ⟨by rfl, ?_⟩) ?_ ?_
                        rotate_left
                        ·intro w'
                         go_simp
                         with_reducible rfl
                        rotate_left
                        ·simp only [Act.put, List.setIfInBounds_toArray, List.set_cons_zero, List.set_cons_succ, i64_w, i32_w]
                         rfl
                        refine pure_ (i := 2) (N := some 128) (v := ?_) (a' := ?_) #[true, true, true, false, false, false, false, false, false, false, false, false, false, false, false, false, false, false, false, false, false, false, false, false, false] rfl rfl (any_of HT_.out (by kernel_rfl)) (fun _ _ _ h => h) (Or.inl ⟨by rfl, ?_⟩) ?_ ?_
                        rotate_left
                        ·intro w'
                         go_simp
                         with_reducible rfl
                        rotate_left
                        ·simp only [Act.put, List.setIfInBounds_toArray, List.set_cons_zero, List.set_cons_succ, i64_w, i32_w]
                         rfl
                        refine pure_ (i := 3) (N := some 129) (v := ?_) (a' := ?_) #[true, true, true, true, false, false, false, false, false, false, false, false, false, false, false, false, false, false, false, false, false, false, false, false, false] rfl rfl (any_of HT_.out (by kernel_rfl)) (fun _ _ _ h => h) (Or.inl ⟨by rfl, ?_⟩) ?_ ?_
                        rotate_left
                        ·intro w'
                         go_simp
                         with_reducible rfl
                        rotate_left
                        ·simp only [Act.put, List.setIfInBounds_toArray, List.set_cons_zero, List.set_cons_succ, i64_w, i32_w]
                         rfl
                        refine pure_ (i := 4) (N := some 130) (v := ?_) (a' := ?_) #[true, true, true, true, true, false, false, false, false, false, false, false, false, false, false, false, false, false, false, false, false, false, false, false, false] rfl rfl (any_of HT_.out (by kernel_rfl)) (fun _ _ _ h => h) (Or.inl ⟨by rfl, ?_⟩) ?_ ?_
                        rotate_left
                        ·intro w'
                         go_simp
                         with_reducible rfl
                        rotate_left
                        ·simp only [Act.put, List.setIfInBounds_toArray, List.set_cons_zero, List.set_cons_succ, i64_w, i32_w]
                         rfl
                        refine pure_ (i := 7) (N := some 133) (v := ?_) (a' := ?_) #[true, true, true, true, true, false, false, true, false, false, false, false, false, false, false, false, false, false, false, false, false, false, false, false, false] rfl rfl (any_of HT_.out (by kernel_rfl)) (fun _ _ _ h => h) (Or.inl ⟨by rfl, ?_⟩) ?_ ?_
                        rotate_left
                        ·intro w'
                         go_simp
                         with_reducible rfl
                        rotate_left
                        ·simp only [Act.put, List.setIfInBounds_toArray, List.set_cons_zero, List.set_cons_succ, i64_w, i32_w]
                         rfl
                        refine pure_ (i := 8) (N := some 134) (v := ?_) (a' := ?_) #[true, true, true, true, true, false, false, true, true, false, false, false, false, false, false, false, false, false, false, false, false, false, false, false, false] rfl rfl (any_of HT_.out (by kernel_rfl)) (fun _ _ _ h => h) (Or.inl ⟨by rfl, ?_⟩) ?_ ?_
                        rotate_left
                        ·intro w'
                         go_simp
                         with_reducible rfl
                        rotate_left
                        ·simp only [Act.put, List.setIfInBounds_toArray, List.set_cons_zero, List.set_cons_succ, i64_w, i32_w]
                         rfl
                        refine pure_ (i := 9) (N := some 135) (v := ?_) (a' := ?_) #[true, true, true, true, true, false, false, true, true, true, false, false, false, false, false, false, false, false, false, false, false, false, false, false, false] rfl rfl (any_of HT_.out (by kernel_rfl)) (fun _ _ _ h => h) (Or.inl ⟨by rfl, ?_⟩) ?_ ?_
                        rotate_left
                        ·intro w'
                         go_simp
                         with_reducible rfl
                        rotate_left
                        ·simp only [Act.put, List.setIfInBounds_toArray, List.set_cons_zero, List.set_cons_succ, i64_w, i32_w]
                         rfl
                        refine pure_ (i := 10) (N := some 136) (v := ?_) (a' := ?_) #[true, true, true, true, true, false, false, true, true, true, true, false, false, false, false, false, false, false, false, false, false, false, false, false, false] rfl rfl (any_of HT_.out (by kernel_rfl)) (fun _ _ _ h => h) (Or.inl ⟨by rfl, ?_⟩) ?_ ?_
                        rotate_left
                        ·intro w'
                         go_simp
                         with_reducible rfl
                        rotate_left
                        ·simp only [Act.put, List.setIfInBounds_toArray, List.set_cons_zero, List.set_cons_succ, i64_w, i32_w]
                         rfl
                        refine pure_ (i := 11) (N := some 137) (v := ?_) (a' := ?_) #[true, true, true, true, true, false, false, true, true, true, true, true, false, false, false, false, false, false, false, false, false, false, false, false, false] rfl rfl (any_of HT_.out (by kernel_rfl)) (fun _ _ _ h => h) (Or.inl ⟨by rfl, ?_⟩) ?_ ?_
                        rotate_left
                        ·intro w'
                         go_simp
                         with_reducible rfl
                        rotate_left
                        ·simp only [Act.put, List.setIfInBounds_toArray, List.set_cons_zero, List.set_cons_succ, i64_w, i32_w]
                         rfl
                        refine pure_ (i := 16) (N := some 142) (v := ?_) (a' := ?_) #[true, true, true, true, true, false, false, true, true, true, true, true, false, false, false, false, true, false, false, false, false, false, false, false, false] rfl rfl (any_of HT_.out (by kernel_rfl)) (fun _ _ _ h => h) (Or.inl ⟨by rfl, ?_⟩) ?_ ?_
                        rotate_left
                        ·intro w'
                         go_simp
                         with_reducible rfl
                        rotate_left
                        ·simp only [Act.put, List.setIfInBounds_toArray, List.set_cons_zero, List.set_cons_succ, i64_w, i32_w]
                         rfl
                        refine pure_ (i := 17) (N := some 143) (v := ?_) (a' := ?_) #[true, true, true, true, true, false, false, true, true, true, true, true, false, false, false, false, true, true, false, false, false, false, false, false, false] rfl rfl (any_of HT_.out (by kernel_rfl)) (fun _ _ _ h => h) (Or.inl ⟨by rfl, ?_⟩) ?_ ?_
                        rotate_left
                        ·intro w'
                         go_simp
                         with_reducible rfl
                        rotate_left
                        ·simp only [Act.put, List.setIfInBounds_toArray, List.set_cons_zero, List.set_cons_succ, i64_w, i32_w]
                         rfl
                        refine pure_ (i := 18) (N := some 144) (v := ?_) (a' := ?_) #[true, true, true, true, true, false, false, true, true, true, true, true, false, false, false, false, true, true, true, false, false, false, false, false, false] rfl rfl (any_of HT_.out (by kernel_rfl)) (fun _ _ _ h => h) (Or.inl ⟨by rfl, ?_⟩) ?_ ?_
                        rotate_left
                        ·intro w'
                         go_simp
                         with_reducible rfl
                        rotate_left
                        ·simp only [Act.put, List.setIfInBounds_toArray, List.set_cons_zero, List.set_cons_succ, i64_w, i32_w]
                         rfl
                        refine pure_ (i := 19) (N := some 145) (v := ?_) (a' := ?_) #[true, true, true, true, true, false, false, true, true, true, true, true, false, false, false, false, true, true, true, true, false, false, false, false, false] rfl rfl (any_of HT_.out (by kernel_rfl)) (fun _ _ _ h => h) (Or.inl ⟨by rfl, ?_⟩) ?_ ?_
                        rotate_left
                        ·intro w'
                         go_simp
                         with_reducible rfl
                        rotate_left
                        ·simp only [Act.put, List.setIfInBounds_toArray, List.set_cons_zero, List.set_cons_succ, i64_w, i32_w]
                         rfl
                        refine take_ (i := 5) (N := some 131) (v := ?_) (a' := ?_) #[true, true, true, true, true, true, false, true, true, true, true, true, false, false, false, false, true, true, true, true, false, false, false, false, false] rfl rfl (take_ofW HT_.out HW_.out (by kernel_rfl)) (fun _ _ _ h => h) (Or.inl ⟨by rfl, ?_⟩) hHeld ?_ ?_
                        rotate_left
                        ·rintro w' ⟨s0, s1, s2, s3, s4, s5, s6, s7, s8, s9⟩
                         go_simp
                         with_reducible rfl
                        rotate_left
                        ·simp only [Act.put, List.setIfInBounds_toArray, List.set_cons_zero, List.set_cons_succ, i64_w, i32_w]
                         rfl
                        refine pure_ (i := 6) (N := some 132) (v := ?_) (a' := ?_) #[true, true, true, true, true, true, true, true, true, true, true, true, false, false, false, false, true, true, true, true, false, false, false, false, false] rfl rfl (any_of HT_.out (by kernel_rfl)) (fun _ _ _ h => h) (Or.inl ⟨by rfl, ?_⟩) ?_ ?_
                        rotate_left
                        ·intro w'
                         go_simp
                         with_reducible rfl
                        rotate_left
                        ·simp only [Act.put, List.setIfInBounds_toArray, List.set_cons_zero, List.set_cons_succ, i64_w, i32_w]
                         rfl
                        refine take_ (i := 12) (N := some 138) (v := ?_) (a' := ?_) #[true, true, true, true, true, true, true, true, true, true, true, true, true, false, false, false, true, true, true, true, false, false, false, false, false] rfl rfl (take_ofW HT_.out HW_.out (by kernel_rfl)) (fun _ _ _ h => h) (Or.inl ⟨by rfl, ?_⟩) hHeld ?_ ?_
                        rotate_left
                        ·rintro w' ⟨s0, s1, s2, s3, s4, s5, s6, s7, s8, s9⟩
                         go_simp
                         with_reducible rfl
                        rotate_left
                        ·simp only [Act.put, List.setIfInBounds_toArray, List.set_cons_zero, List.set_cons_succ, i64_w, i32_w]
                         rfl
                        refine pure_ (i := 13) (N := some 139) (v := ?_) (a' := ?_) #[true, true, true, true, true, true, true, true, true, true, true, true, true, true, false, false, true, true, true, true, false, false, false, false, false] rfl rfl (any_of HT_.out (by kernel_rfl)) (fun _ _ _ h => h) (Or.inl ⟨by rfl, ?_⟩) ?_ ?_
                        rotate_left
                        ·intro w'
                         go_simp
                         with_reducible rfl
                        rotate_left
                        ·simp only [Act.put, List.setIfInBounds_toArray, List.set_cons_zero, List.set_cons_succ, i64_w, i32_w]
                         rfl
                        refine pure_ (i := 14) (N := some 140) (v := ?_) (a' := ?_) #[true, true, true, true, true, true, true, true, true, true, true, true, true, true, true, false, true, true, true, true, false, false, false, false, false] rfl rfl (any_of HT_.out (by kernel_rfl)) (fun _ _ _ h => h) (Or.inl ⟨by rfl, ?_⟩) ?_ ?_
                        rotate_left
                        ·intro w'
                         go_simp
                         with_reducible rfl
                        rotate_left
                        ·simp only [Act.put, List.setIfInBounds_toArray, List.set_cons_zero, List.set_cons_succ, i64_w, i32_w]
                         rfl
                        refine take_ (i := 15) (N := some 141) (v := ?_) (a' := ?_) #[true, true, true, true, true, true, true, true, true, true, true, true, true, true, true, true, true, true, true, true, false, false, false, false, false] rfl rfl (take_ofW HT_.out HW_.out (by kernel_rfl)) (fun _ _ _ h => h) (Or.inl ⟨by rfl, ?_⟩) hHeld ?_ ?_
                        rotate_left
                        ·rintro w' ⟨s0, s1, s2, s3, s4, s5, s6, s7, s8, s9⟩
                         go_simp
                         with_reducible rfl
                        rotate_left
                        ·simp only [Act.put, List.setIfInBounds_toArray, List.set_cons_zero, List.set_cons_succ, i64_w, i32_w]
                         rfl
                        refine take_ (i := 20) (N := some 146) (v := ?_) (a' := ?_) #[true, true, true, true, true, true, true, true, true, true, true, true, true, true, true, true, true, true, true, true, true, false, false, false, false] rfl rfl (take_ofW HT_.out HW_.out (by kernel_rfl)) (fun _ _ _ h => h) (Or.inl ⟨by rfl, ?_⟩) hHeld ?_ ?_
                        rotate_left
                        ·rintro w' ⟨s0, s1, s2, s3, s4, s5, s6, s7, s8, s9⟩
                         go_simp
                         with_reducible rfl
                        rotate_left
                        ·simp only [Act.put, List.setIfInBounds_toArray, List.set_cons_zero, List.set_cons_succ, i64_w, i32_w]
                         rfl
                        refine one_ (i := 21) (N := some 147) #[true, true, true, true, true, true, true, true, true, true, true, true, true, true, true, true, true, true, true, true, true, true, false, false, false] rfl rfl (one_of HT_.out (by kernel_rfl)) (by decide) (fun K hK => ?_)
                        refine value_ (w1 := ?_) (v := ?_) (by rfl) rfl ?_ ?_
                        rotate_left 2
                        ·go_simp
                         constructor
                         ·rfl
                         ·rfl
                        refine hK.out _ _ ⟨(World.cell?_alloc_lt _ _ _ (World.block_lt_of_cell? _ _ (((HB.out.cell (World.block_lt_of_cell? w _ hw127_0)).trans hw127_0)))).trans (((HB.out.cell (World.block_lt_of_cell? w _ hw127_0)).trans hw127_0)), (World.cell?_alloc_lt _ _ _ (World.block_lt_of_cell? _ _ (((HB.out.cell (World.block_lt_of_cell? w _ hw127_1)).trans hw127_1)))).trans (((HB.out.cell (World.block_lt_of_cell? w _ hw127_1)).trans hw127_1)), (World.cell?_alloc_lt _ _ _ (World.block_lt_of_cell? _ _ (((HB.out.cell (World.block_lt_of_cell? w _ hw127_2)).trans hw127_2)))).trans (((HB.out.cell (World.block_lt_of_cell? w _ hw127_2)).trans hw127_2)), (World.cell?_alloc_lt _ _ _ (World.block_lt_of_cell? _ _ (((HB.out.cell (World.block_lt_of_cell? w _ hw128_0)).trans hw128_0)))).trans (((HB.out.cell (World.block_lt_of_cell? w _ hw128_0)).trans hw128_0)), (World.cell?_alloc_lt _ _ _ (World.block_lt_of_cell? _ _ (((HB.out.cell (World.block_lt_of_cell? w _ hw128_1)).trans hw128_1)))).trans (((HB.out.cell (World.block_lt_of_cell? w _ hw128_1)).trans hw128_1)), (World.cell?_alloc_lt _ _ _ (World.block_lt_of_cell? _ _ (((HB.out.cell (World.block_lt_of_cell? w _ hw128_2)).trans hw128_2)))).trans (((HB.out.cell (World.block_lt_of_cell? w _ hw128_2)).trans hw128_2)), (World.cell?_alloc_lt _ _ _ (World.block_lt_of_cell? _ _ (hHeld.2.2.2.2.2.2.1))).trans (hHeld.2.2.2.2.2.2.1), (World.cell?_alloc_lt _ _ _ (World.block_lt_of_cell? _ _ (((HB.out.cell (World.block_lt_of_cell? w _ hw130_0)).trans hw130_0)))).trans (((HB.out.cell (World.block_lt_of_cell? w _ hw130_0)).trans hw130_0)), (World.cell?_alloc_lt _ _ _ (World.block_lt_of_cell? _ _ (((HB.out.cell (World.block_lt_of_cell? w _ hw130_1)).trans hw130_1)))).trans (((HB.out.cell (World.block_lt_of_cell? w _ hw130_1)).trans hw130_1)), (World.cell?_alloc_lt _ _ _ (World.block_lt_of_cell? _ _ (((HB.out.cell (World.block_lt_of_cell? w _ hw130_2)).trans hw130_2)))).trans (((HB.out.cell (World.block_lt_of_cell? w _ hw130_2)).trans hw130_2))⟩ (fun hHeld => ?_)
                        clear hK K
                        refine norm_ (a' := ?_) ?_ ?_
                        rotate_left
                        ·show Act.put _ (some 147) _ = _
                         simp only [Act.put, List.setIfInBounds_toArray, List.set_cons_zero, List.set_cons_succ, i64_w, i32_w]
                         rfl
                        refine one_ (i := 22) (N := some 148) #[true, true, true, true, true, true, true, true, true, true, true, true, true, true, true, true, true, true, true, true, true, true, true, false, false] rfl rfl (one_of HT_.out (by kernel_rfl)) (by decide) (fun K hK => ?_)
                        refine Kd.R_append_step (Kd.int .i64) (w0 := w) w.heap.size (by rfl) (.tmp 141) (.tmp 147) 23 2 (.int .i64 0) 8 rfl Try.underlying23 info2 rfl (by decide) (by omega) (.slice A129_0 (rd_L3 x13_5 (ji45)).length c129_0) (rd_L3 x13_5 (ji45)) ((rd_T39 l1 x14_5).f2) [.int .i64 ((rd_T39 l1 x14_5).f2)] (fun k_ => oki52 k_ ∨ ((fun k_ => some k_ ≠ (v102 : Value).ownBlock ∧ some k_ ≠ (u10 : Value).ownBlock)) k_ ∧ w50.heap.size ≤ k_) (fun _ => False) rfl rfl ?aP (fun _ hk => hk.elim) ?aF ?aO ?aB ?aS ?aL ?_
                        (case aP => exact rfl)
                        (case aB => exact (by repeat (first | (with_reducible first | exact HB.out | apply below_alloc | apply pw_below_drewN | apply below_drew1) | exact HB.out)))
                        (case aF => exact (fun k_ hk => .inr ⟨⟨Kd.fresh' (Kd.R_lt (by (with_reducible repeat (first | apply Kd.R_alloc | apply Kd.R_drewN | apply Kd.R_drew)); exact HO_7.out)) k_ hk, Kd.fresh' (Kd.R_lt (by (with_reducible repeat (first | apply Kd.R_alloc | apply Kd.R_drewN | apply Kd.R_drew)); exact HO_10.out)) k_ hk⟩, hk⟩))
                        (case aO => exact (by (with_reducible repeat (first | apply Kd.R_alloc | apply Kd.R_drewN | apply Kd.R_drew)); exact Kd.R_mono UU52.out (fun _ hk => .inl hk)))
                        (case aS => exact (below_size (by repeat (first | (with_reducible first | exact HB.out | apply below_alloc | apply pw_below_drewN | apply below_drew1) | exact HB.out))))
                        (case aL => have := LMc48.out; omega)
                        intro v132 w53 ho hb hg hat
                        (first | have HS6_ := cell_grown hg (hHeld.2.2.2.2.2.2.1) (by first | (rw [add_block]; exact (fun e_ => ((HL129_0.out.1 _ e_.symm).2) rfl)) | (show some (Addr.add _ _).block ≠ _; rw [add_block]; exact (fun e_ => ((HL129_0.out.1 _ e_.symm).2) rfl)) | exact (fun e_ => ((HL129_0.out.1 _ e_.symm).2) rfl)) | have HS6_ := cell_grown hg (cell_unalloc (hHeld.2.2.2.2.2.2.1) (by first | (rw [add_block]; exact Kd.S_lt HO_13.out _ rfl) | (show (Addr.add _ _).block < _; rw [add_block]; exact Kd.S_lt HO_13.out _ rfl) | exact Kd.S_lt HO_13.out _ rfl)) (by first | (rw [add_block]; exact (fun e_ => ((HL129_0.out.1 _ e_.symm).2) rfl)) | (show some (Addr.add _ _).block ≠ _; rw [add_block]; exact (fun e_ => ((HL129_0.out.1 _ e_.symm).2) rfl)) | exact (fun e_ => ((HL129_0.out.1 _ e_.symm).2) rfl)))
                        rw [← Ny131.out] at ho
                        have n0_ := Aside0.mk (Kd.R_grown2 (by (with_reducible repeat (first | apply Kd.R_alloc | apply Kd.R_drewN | apply Kd.R_drew)); exact HO_7.out) rfl hg (fun k_ e_ => (HL129_0.out.1 k_ e_).1.1))
                        have n1_ := Aside0.mk (Kd.R_over' (v := (.slice A129_0 (rd_L3 x13_5 (ji45)).length c129_0)) (by (with_reducible repeat (first | apply Kd.R_alloc | apply Kd.R_drewN | apply Kd.R_drew)); exact HO_9.out) (Kd.R_typed HL129_0.out) (by decide) hg)
                        have n2_ := Aside0.mk (Kd.R_grown2 (by (with_reducible repeat (first | apply Kd.R_alloc | apply Kd.R_drewN | apply Kd.R_drew)); exact HO_10.out) rfl hg (fun k_ e_ => (HL129_0.out.1 k_ e_).1.2))
                        have n3_ := Aside0.mk (hb)
                        have n4_ := Aside0.mk (Kd.H_grown (Kd.H_widen (by repeat (first | exact HH52.out | refine Kd.H_alloc ?_ _ | refine Kd.H_drewN ?_ _ | refine Kd.H_drew ?_))) hg (fun k_ e_ => .inl (UU52.out.1 k_ e_)))
                        have n5_ := Aside0.mk (ho)
                        clear HO_7
                        clear HO_9
                        clear HO_10
                        clear HB
                        clear HH52
                        clear HO_13
                        clear UU52
                        clear HL129_0
                        have HO_7 := n0_
                        have HO_9 := n1_
                        have HO_10 := n2_
                        have HB := n3_
                        have HH52 := n4_
                        have HO133 := n5_
                        clear n0_ n1_ n2_ n3_ n4_ n5_
                        clear ho hb hg hat
                        have p49 : 0 ≤ ((ji45) : Int) := of_decide_eq_true (by first | (with_reducible assumption) | assumption)
                        have q49 : ((ji45) : Int) < ((x13_5.length : Int) : Int) := of_decide_eq_true (by first | (with_reducible assumption) | assumption)
                        replace p49 := eq_true p49
                        replace q49 := eq_true q49
                        obtain ⟨Ao56, co56, eo56⟩ := Kd.R_slice HO133.out
                        (first | subst eo56 | (injection eo56 with f1_ f2_ f3_; have f4_ := f1_.symm; have f5_ := f3_.symm; clear f1_ f2_ f3_; subst f4_; subst f5_))
                        obtain ⟨_, _, hraw54, _, _, hcc54, _⟩ := Kd.H_raw HH52.out (of_decide_eq_true (by first | (with_reducible assumption) | assumption)) (by have h_ : ((ji45) : Int) < ((x13_5.length : Int) : Int) := of_decide_eq_true (by first | (with_reducible assumption) | assumption); first | exact h_ | (have e_ := (HN52.out); omega) | simpa using h_)
                        obtain ⟨_, hfr54⟩ := Kd.H_at HH52.out (of_decide_eq_true (by first | (with_reducible assumption) | assumption)) (by have h_ : ((ji45) : Int) < ((x13_5.length : Int) : Int) := of_decide_eq_true (by first | (with_reducible assumption) | assumption); first | exact h_ | (have e_ := (HN52.out); omega) | simpa using h_)
                        have hx54_0 := hcc54 0 _ rfl
                        have hf54_0 := hfr54 0
                        (try simp only [Nat.add_zero] at hx54_0 hf54_0)
                        (try rw [show ((Kd.slice 2 (Kd.int .i64))).sz = 1 from rfl, Nat.mul_one] at hx54_0)
                        (try rw [show ((Kd.slice 2 (Kd.int .i64))).sz = 1 from rfl, Nat.mul_one] at hf54_0)
                        have HP54 := Kd.S_seg0 HH52.out (of_decide_eq_true (by first | (with_reducible assumption) | assumption)) (by have h_ : ((ji45) : Int) < ((x13_5.length : Int) : Int) := of_decide_eq_true (by first | (with_reducible assumption) | assumption); first | exact h_ | (have e_ := (HN52.out); omega) | simpa using h_) (seg := [.slice Ao56 y131.length co56]) (j := 0) (show 1 ≤ 1 from by decide) (x' := y131) (Kd.M_row HO133.out) (fun _ hk => hk)
                        (try simp only [show ((Kd.slice 2 (Kd.int .i64))).sz = 1 from rfl, Nat.mul_one, Nat.add_zero] at HP54)
                        clear hcc54 hfr54
                        have HS54 := HP54.1
                        rw [← Ny134.out] at HS54
                        have HQ54 := Aside0.mk HS54
                        obtain ⟨_, hgg54⟩ := Kd.R_typed hraw54 go52 rfl
                        have GG54_ := Aside0.mk hgg54
                        clear HP54 HS54 hgg54
                        refine hK.out _ _ ⟨((HB.out.cell (World.block_lt_of_cell? w _ hw127_0)).trans hw127_0), ((HB.out.cell (World.block_lt_of_cell? w _ hw127_1)).trans hw127_1), ((HB.out.cell (World.block_lt_of_cell? w _ hw127_2)).trans hw127_2), ((HB.out.cell (World.block_lt_of_cell? w _ hw128_0)).trans hw128_0), ((HB.out.cell (World.block_lt_of_cell? w _ hw128_1)).trans hw128_1), ((HB.out.cell (World.block_lt_of_cell? w _ hw128_2)).trans hw128_2), HS6_, ((HB.out.cell (World.block_lt_of_cell? w _ hw130_0)).trans hw130_0), ((HB.out.cell (World.block_lt_of_cell? w _ hw130_1)).trans hw130_1), ((HB.out.cell (World.block_lt_of_cell? w _ hw130_2)).trans hw130_2)⟩ (fun hHeld => ?_)
                        clear hK K
                        refine norm_ (a' := ?_) ?_ ?_
                        rotate_left
                        ·show Act.put _ (some 148) _ = _
                         simp only [Act.put, List.setIfInBounds_toArray, List.set_cons_zero, List.set_cons_succ, i64_w, i32_w]
                         rfl
                        refine pure_ (i := 23) (N := some 149) (v := ?_) (a' := ?_) #[true, true, true, true, true, true, true, true, true, true, true, true, true, true, true, true, true, true, true, true, true, true, true, true, false] rfl rfl (any_of HT_.out (by kernel_rfl)) (fun _ _ _ h => h) (Or.inl ⟨by rfl, ?_⟩) ?_ ?_
                        rotate_left
                        ·intro w'
                         go_simp
                         with_reducible rfl
                        rotate_left
                        ·simp only [Act.put, List.setIfInBounds_toArray, List.set_cons_zero, List.set_cons_succ, i64_w, i32_w]
                         rfl
                        refine last_ (i := 24) (N := none) #[true, true, true, true, true, true, true, true, true, true, true, true, true, true, true, true, true, true, true, true, true, true, true, true, true] rfl rfl (one_of HT_.out (by kernel_rfl)) (by decide) (fun K hK => ?_)
                        refine skip_ (w1 := ?_) (by rfl) rfl ?_ ?_
                        rotate_left
                        ·go_simp
                         rfl
                        refine hK.out _ _ ?_
                        clear hK K
                        refine done_ (done_of HT_.out (by kernel_rfl)) ?_
                        try go_wp2
                        go_roundg k5
                        case measure => have := HJ3.out; have := HK2.out; have := HK3.out; have := HK4.out; have := HK5.out; omega
                        case rel => exact ⟨(y134), (wrap64 (x14_5 + 1)), (by first | rfl | (simp; done) | (simp [*]; done)), H', ⟨by have := HJ3.out; have := HK2.out; have := HK3.out; have := HK4.out; have := HK5.out; omega⟩, ⟨by (with_reducible repeat (first | apply Kd.R_alloc | apply Kd.R_drewN | apply Kd.R_drew)); exact Kd.R_mono (Kd.R_far (p := ⟨go52, ((ji45) : Int).toNat, none⟩) (Kd.R_types HO_7.out GG54_.out (by decide)) (fun _ hk => hk.2) (.slice Ao56 y131.length co56)) (fun _ hk => hk.1)⟩, ⟨by (with_reducible repeat (first | apply Kd.R_alloc | apply Kd.R_drewN | apply Kd.R_drew)); exact Kd.R_mono (Kd.R_far (p := ⟨go52, ((ji45) : Int).toNat, none⟩) (Kd.R_types HO_9.out GG54_.out (by decide)) (fun _ hk => hk.2) (.slice Ao56 y131.length co56)) (fun _ hk => trivial)⟩, ⟨by (with_reducible repeat (first | apply Kd.R_alloc | apply Kd.R_drewN | apply Kd.R_drew)); exact Kd.R_mono (Kd.R_far (p := ⟨go52, ((ji45) : Int).toNat, none⟩) (Kd.R_types HO_10.out GG54_.out (by decide)) (fun _ hk => hk.2) (.slice Ao56 y131.length co56)) (fun _ hk => hk.1)⟩, ⟨by (with_reducible repeat (first | apply Kd.S_alloc | apply Kd.S_drewN | apply Kd.S_drew)); exact HQ54.out⟩, ⟨by repeat (first | (with_reducible first | exact HB.out | apply below_alloc | apply pw_below_drewN | apply below_drew1 | refine below_set ?_ GB52.out) | exact HB.out)⟩⟩
                       ·rw [if_neg c48] at H
                        exact absurd H (by simp)
                      ·rw [if_neg c47] at H
                       exact absurd H (by simp)
                     ·rw [if_neg c46] at H
                      exact absurd H (by simp)
                    ·rw [if_neg c44] at H
                     exact absurd H (by simp)
                   ·rw [if_neg c43] at H
                    have c43b0 : decide (x14_5 < (l1.length : Int)) = false := decide_eq_false c43
                    clear c43
                    have H' := Aside0.mk H
                    clear H
                    go_wp2
                    go_loopg [10] k5 (fun kq v10 w' => ∃ (x9_6 : List Bool) (x10_6 : List Int), Aside0 (spec_GcReach.l4 kq a0 y101 x9_6 x10_6 x13_5 = some r) ∧ Aside0 (kq ≤ k5) ∧ Aside0 (Kd.R (Kd.int .i64) 2 w' w.heap.size (fun k_ => some k_ ≠ (v10 : Value).ownBlock) v102 y101) ∧ Aside0 (Kd.R Kd.bool 4 w' w.heap.size (fun _ => True) v109 x9_6) ∧ Aside0 (Kd.R (Kd.int .i64) 2 w' w.heap.size (fun k_ => some k_ ≠ (v102 : Value).ownBlock) v10 x10_6) ∧ Aside0 (Kd.S (Kd.slice 2 (Kd.int .i64)) 23 w' w.heap.size (fun k_ => some k_ ≠ (v102 : Value).ownBlock ∧ some k_ ≠ (v10 : Value).ownBlock) v125 x13_5) ∧ Aside0 (Below w.heap.size w w'))
                    case atStart => exact ⟨(x9_4), (x10_4), H', ⟨Nat.le_refl _⟩, ⟨by (with_reducible repeat (first | apply Kd.R_alloc | apply Kd.R_drewN | apply Kd.R_drew)); exact HO_7.out⟩, ⟨by (with_reducible repeat (first | apply Kd.R_alloc | apply Kd.R_drewN | apply Kd.R_drew)); exact HO_9.out⟩, ⟨by (with_reducible repeat (first | apply Kd.R_alloc | apply Kd.R_drewN | apply Kd.R_drew)); exact HO_10.out⟩, ⟨by (with_reducible repeat (first | apply Kd.S_alloc | apply Kd.S_drewN | apply Kd.S_drew)); exact HO_13.out⟩, ⟨by repeat (first | (with_reducible first | exact HB.out | apply below_alloc | apply pw_below_drewN | apply below_drew1) | exact HB.out)⟩⟩
                    case round =>
                     clear H'
                     try clear c1
                     try clear p1
                     try clear q1
                     try clear hx1
                     try clear c2
                     try clear p2
                     try clear c3
                     try clear p3
                     try clear q3
                     try clear hx3
                     try clear hf3
                     try clear c4
                     try clear p4
                     try clear q4
                     try clear c5
                     try clear hx5
                     try clear hf5
                     try clear p6
                     try clear c7
                     try clear c7b0
                     try clear c8
                     try clear c9
                     try clear c9b0
                     try clear c10
                     try clear c10b0
                     try clear p10
                     try clear q10
                     try clear hx10
                     try clear c11
                     try clear c11b0
                     try clear p11
                     try clear q11
                     try clear hx11
                     try clear c12
                     try clear c12b0
                     try clear p12
                     try clear q12
                     try clear hx12
                     try clear c13
                     try clear c13b0
                     try clear p13
                     try clear q13
                     try clear hx13
                     try clear c14
                     try clear c14b0
                     try clear c15
                     try clear c15b0
                     try clear c15b1
                     try clear c16
                     try clear c16b0
                     try clear c16b1
                     try clear c21
                     try clear c21b0
                     try clear c22
                     try clear c22b0
                     try clear c23
                     try clear c23b0
                     try clear c24
                     try clear c24b0
                     try clear c25
                     try clear c25b0
                     try clear c26
                     try clear c26b0
                     try clear c28
                     try clear c28b0
                     try clear c29
                     try clear c29b0
                     try clear q30
                     try clear c31
                     try clear p33
                     try clear q33
                     try clear hx33
                     try clear hf33
                     try clear c34
                     try clear c39
                     try clear c39b0
                     try clear c39b1
                     try clear c40
                     try clear c40b0
                     try clear c40b1
                     try clear c43
                     try clear c43b0
                     try clear c44
                     try clear c44b0
                     try clear c46
                     try clear c46b0
                     try clear c47
                     try clear c47b0
                     try clear c48
                     try clear p49
                     try clear q49
                     try clear c52
                     try clear c54
                     try clear hx54
                     try clear hf54
                     try clear hx104_0
                     try clear hx104_1
                     try clear hx104_2
                     try clear hx105_0
                     try clear hx105_1
                     try clear hx105_2
                     try clear hx106_0
                     try clear hx106_1
                     try clear hx106_2
                     try clear hx107_0
                     try clear hx107_1
                     try clear hx107_2
                     try clear hx114_0
                     try clear hx115_0
                     try clear hx116_0
                     try clear hx117_0
                     try clear hx118_0
                     try clear hx120_0
                     try clear hx127_0
                     try clear hx127_1
                     try clear hx127_2
                     try clear hx128_0
                     try clear hx128_1
                     try clear hx128_2
                     try clear hx129_0
                     try clear hx130_0
                     try clear hx130_1
                     try clear hx130_2
                     try clear hx33_0
                     try clear hx54_0
                     try clear p1
                     try clear p10
                     try clear p104
                     try clear p105
                     try clear p106
                     try clear p107
                     try clear p11
                     try clear p114
                     try clear p115
                     try clear p116
                     try clear p117
                     try clear p118
                     try clear p12
                     try clear p120
                     try clear p127
                     try clear p128
                     try clear p129
                     try clear p130
                     try clear p2
                     try clear p3
                     try clear p33
                     try clear p49
                     try clear p6
                     try clear q1
                     try clear q10
                     try clear q104
                     try clear q105
                     try clear q106
                     try clear q107
                     try clear q11
                     try clear q114
                     try clear q115
                     try clear q116
                     try clear q117
                     try clear q118
                     try clear q12
                     try clear q120
                     try clear q127
                     try clear q128
                     try clear q129
                     try clear q130
                     try clear q3
                     try clear q30
                     try clear q33
                     try clear q49
                     obtain ⟨x9_6, x10_6, HA, HK6, HO_7, HO_9, HO_10, HO_13, HB⟩ := hrel
                     cases gk with
                     | zero => exact absurd HA.out (by simp [spec_GcReach.l4])
                     | succ k6 =>
                      have H := HA.out
                      clear HA
                      simp only [spec_GcReach.l4] at H
                      by_cases c57 : (x10_6.length : Int) > 0
                      ·rw [if_pos c57] at H
                       have c57b0 : decide (0 < (x10_6.length : Int)) = true := decide_eq_true c57
                       have c57b1 : decide (0 < x10_6.length) = true := decide_eq_true (by omega)
                       clear c57
                       obtain ⟨ji58, hji58⟩ : ∃ j_ : Int, (wrap64 ((x10_6.length : Int) - 1)) = j_ := ⟨_, rfl⟩
                       replace H : (if 0 ≤ (ji58) then (if (ji58) < (x10_6.length : Int) then (if (ji58) ≤ (x10_6.length : Int) then (spec_GcReach.l5 k6 a0 y101 x9_6 (x10_6.take ((ji58) : Int).toNat) x13_5 (rd x10_6 (ji58)) 0) else (none)) else (none)) else (none)) = some r := by first | (rw [hji58] at H; exact H) | (simp only [hji58] at H ⊢; exact H)
                       have hji58w : (IntKind.i64.wrap ((x10_6.length : Int) - 1)) = ji58 := (i64_w _).trans hji58
                       by_cases c59 : 0 ≤ (ji58)
                       ·rw [if_pos c59] at H
                        have c59b0 : decide (0 ≤ (ji58)) = true := decide_eq_true c59
                        clear c59
                        by_cases c60 : (ji58) < (x10_6.length : Int)
                        ·rw [if_pos c60] at H
                         have c60b0 : decide ((ji58) < (x10_6.length : Int)) = true := decide_eq_true c60
                         clear c60
                         by_cases c61 : (ji58) ≤ (x10_6.length : Int)
                         ·rw [if_pos c61] at H
                          have c61b0 := eq_true c61
                          have c61b1 : decide ((ji58) ≤ (x10_6.length : Int)) = true := decide_eq_true c61
                          clear c61
                          obtain ⟨y136, hy136⟩ : ∃ y_ : List Int, y_ = (x10_6.take ((ji58) : Int).toNat) := ⟨_, rfl⟩
                          replace H : (spec_GcReach.l5 k6 a0 y101 x9_6 y136 x13_5 (rd x10_6 (ji58)) 0) = some r := by first | (rw [hy136]; with_reducible exact H) | (have H2_ := (Option.bind_some _ _).symm.trans H; rw [hy136]; with_reducible exact H2_) | (have H2_ := (Option.bind_some _ _).symm.trans H; with_reducible exact H2_) | with_reducible exact H | (rw [hy136]; exact H) | exact H
                          have Ny136 := Aside0.mk hy136
                          clear hy136
                          have H' := Aside0.mk H
                          clear H
                          obtain ⟨Ao62, co62, eo62⟩ := Kd.R_slice HO_10.out
                          subst eo62
                          have p135 : 0 ≤ ((ji58) : Int) := of_decide_eq_true (by first | (with_reducible assumption) | assumption)
                          have q135 : (ji58) < (x10_6.length : Int) := of_decide_eq_true (by first | (with_reducible assumption) | assumption)
                          obtain ⟨ad135, e135, hx135_0⟩ := Kd.at_int (Kd.R_reads' HO_10.out).2.2 (ji58) p135 q135
                          cases e135
                          replace p135 := eq_true p135
                          replace q135 := eq_true q135
                          have q63 : ((ji58) : Int) ≤ ((x10_6.length : Int) : Int) := of_decide_eq_true (by first | (with_reducible assumption) | assumption)
                          obtain ⟨i063, hi063, _, hsz63, _⟩ := info_parts info2
                          have hcut63 := cut_to (P := Try.prog) 23 2 .i64 Try.underlying23 hi063 (some ad135) x10_6.length co62 (ji58) (of_decide_eq_true (by first | (with_reducible assumption) | assumption)) q63 (Kd.R_reads' HO_10.out).2.1
                          have hr63 := Kd.R_take (m := ((ji58) : Int).toNat) HO_10.out (by omega)
                          have hy63 : y136.length = ((ji58) : Int).toNat := (by rw [Ny136.out, List.length_take]; omega)
                          rw [← Ny136.out] at hr63
                          rw [← hy63] at hr63 hcut63
                          clear hy63 hi063 hsz63 HO_10
                          have HO138 := Aside0.mk hr63
                          clear hr63
                          replace q63 := eq_true q63
                          go_wp2
                          go_loopg [10, 16] k6 (fun kq v10 v16 w' => ∃ (x9_7 : List Bool) (x10_7 : List Int) (x16_7 : Int), v16 = .int .i64 x16_7 ∧ Aside0 (spec_GcReach.l5 kq a0 y101 x9_7 x10_7 x13_5 (rd x10_6 (ji58)) x16_7 = some r) ∧ Aside0 (kq ≤ k6) ∧ Aside0 (Kd.R (Kd.int .i64) 2 w' w.heap.size (fun k_ => some k_ ≠ (v10 : Value).ownBlock) v102 y101) ∧ Aside0 (Kd.R Kd.bool 4 w' w.heap.size (fun _ => True) v109 x9_7) ∧ Aside0 (Kd.R (Kd.int .i64) 2 w' w.heap.size (fun k_ => some k_ ≠ (v102 : Value).ownBlock) v10 x10_7) ∧ Aside0 (Kd.S (Kd.slice 2 (Kd.int .i64)) 23 w' w.heap.size (fun k_ => some k_ ≠ (v102 : Value).ownBlock ∧ some k_ ≠ (v10 : Value).ownBlock) v125 x13_5) ∧ Aside0 (Below w.heap.size w w'))
                          case atStart => exact ⟨(x9_6), (y136), (0), (by first | rfl | (simp; done) | (simp [*]; done)), H', ⟨Nat.le_refl _⟩, ⟨by (with_reducible repeat (first | apply Kd.R_alloc | apply Kd.R_drewN | apply Kd.R_drew)); exact HO_7.out⟩, ⟨by (with_reducible repeat (first | apply Kd.R_alloc | apply Kd.R_drewN | apply Kd.R_drew)); exact HO_9.out⟩, ⟨by (with_reducible repeat (first | apply Kd.R_alloc | apply Kd.R_drewN | apply Kd.R_drew)); exact HO138.out⟩, ⟨by (with_reducible repeat (first | apply Kd.S_alloc | apply Kd.S_drewN | apply Kd.S_drew)); exact HO_13.out⟩, ⟨by repeat (first | (with_reducible first | exact HB.out | apply below_alloc | apply pw_below_drewN | apply below_drew1) | exact HB.out)⟩⟩
                          case round =>
                           clear H'
                           try clear c1
                           try clear p1
                           try clear q1
                           try clear hx1
                           try clear c2
                           try clear p2
                           try clear c3
                           try clear p3
                           try clear q3
                           try clear hx3
                           try clear hf3
                           try clear c4
                           try clear p4
                           try clear q4
                           try clear c5
                           try clear hx5
                           try clear hf5
                           try clear c6
                           try clear p6
                           try clear q6
                           try clear c7
                           try clear c7b0
                           try clear c8
                           try clear c9
                           try clear c9b0
                           try clear c10
                           try clear c10b0
                           try clear p10
                           try clear q10
                           try clear hx10
                           try clear c11
                           try clear c11b0
                           try clear p11
                           try clear q11
                           try clear hx11
                           try clear c12
                           try clear c12b0
                           try clear p12
                           try clear q12
                           try clear hx12
                           try clear c13
                           try clear c13b0
                           try clear p13
                           try clear q13
                           try clear hx13
                           try clear c14
                           try clear c14b0
                           try clear c15
                           try clear c15b0
                           try clear c15b1
                           try clear c16
                           try clear c16b0
                           try clear c16b1
                           try clear c21
                           try clear c21b0
                           try clear c22
                           try clear c22b0
                           try clear c23
                           try clear c23b0
                           try clear c24
                           try clear c24b0
                           try clear c25
                           try clear c25b0
                           try clear c26
                           try clear c26b0
                           try clear c28
                           try clear c28b0
                           try clear c29
                           try clear c29b0
                           try clear q30
                           try clear c31
                           try clear p33
                           try clear q33
                           try clear hx33
                           try clear hf33
                           try clear c34
                           try clear c39
                           try clear c39b0
                           try clear c39b1
                           try clear c40
                           try clear c40b0
                           try clear c40b1
                           try clear c43
                           try clear c43b0
                           try clear c44
                           try clear c44b0
                           try clear c46
                           try clear c46b0
                           try clear c47
                           try clear c47b0
                           try clear c48
                           try clear p49
                           try clear q49
                           try clear c52
                           try clear c54
                           try clear hx54
                           try clear hf54
                           try clear c57
                           try clear c57b0
                           try clear c57b1
                           try clear c59
                           try clear c59b0
                           try clear c60
                           try clear c60b0
                           try clear c61
                           try clear c61b0
                           try clear c61b1
                           try clear q63
                           try clear hx104_0
                           try clear hx104_1
                           try clear hx104_2
                           try clear hx105_0
                           try clear hx105_1
                           try clear hx105_2
                           try clear hx106_0
                           try clear hx106_1
                           try clear hx106_2
                           try clear hx107_0
                           try clear hx107_1
                           try clear hx107_2
                           try clear hx114_0
                           try clear hx115_0
                           try clear hx116_0
                           try clear hx117_0
                           try clear hx118_0
                           try clear hx120_0
                           try clear hx127_0
                           try clear hx127_1
                           try clear hx127_2
                           try clear hx128_0
                           try clear hx128_1
                           try clear hx128_2
                           try clear hx129_0
                           try clear hx130_0
                           try clear hx130_1
                           try clear hx130_2
                           try clear hx135_0
                           try clear hx33_0
                           try clear hx54_0
                           try clear p1
                           try clear p10
                           try clear p104
                           try clear p105
                           try clear p106
                           try clear p107
                           try clear p11
                           try clear p114
                           try clear p115
                           try clear p116
                           try clear p117
                           try clear p118
                           try clear p12
                           try clear p120
                           try clear p127
                           try clear p128
                           try clear p129
                           try clear p13
                           try clear p130
                           try clear p135
                           try clear p2
                           try clear p3
                           try clear p33
                           try clear p4
                           try clear p49
                           try clear p6
                           try clear q1
                           try clear q10
                           try clear q104
                           try clear q105
                           try clear q106
                           try clear q107
                           try clear q11
                           try clear q114
                           try clear q115
                           try clear q116
                           try clear q117
                           try clear q118
                           try clear q12
                           try clear q120
                           try clear q127
                           try clear q128
                           try clear q129
                           try clear q13
                           try clear q130
                           try clear q135
                           try clear q3
                           try clear q30
                           try clear q33
                           try clear q4
                           try clear q49
                           try clear q63
                           obtain ⟨x9_7, x10_7, x16_7, rfl, HA, HK7, HO_7, HO_9, HO_10, HO_13, HB⟩ := hrel
                           cases gk with
                           | zero => exact absurd HA.out (by simp [spec_GcReach.l5])
                           | succ k7 =>
                            have H := HA.out
                            clear HA
                            simp only [spec_GcReach.l5] at H
                            obtain ⟨ji64, hji64⟩ : ∃ j_ : Int, (wrap64 ((rd x10_6 (ji58)) - 1)) = j_ := ⟨_, rfl⟩
                            replace H : (if 0 ≤ (ji64) then (if (ji64) < (x13_5.length : Int) then (if x16_7 < ((rd_L3 x13_5 (ji64)).length : Int) then (if 0 ≤ x16_7 then (if 0 ≤ (wrap64 ((rd (rd_L3 x13_5 (ji64)) x16_7) - 1)) then (if (wrap64 ((rd (rd_L3 x13_5 (ji64)) x16_7) - 1)) < (x9_7.length : Int) then (if (rdOf false x9_7 (wrap64 ((rd (rd_L3 x13_5 (ji64)) x16_7) - 1)) = true) then (spec_GcReach.l5 k7 a0 y101 x9_7 x10_7 x13_5 (rd x10_6 (ji58)) (wrap64 (x16_7 + 1))) else (if x10_7.length < 17592186044416 then (spec_GcReach.l5 k7 a0 y101 (x9_7.set ((wrap64 ((rd (rd_L3 x13_5 (ji64)) x16_7) - 1)) : Int).toNat true) (x10_7 ++ [rd (rd_L3 x13_5 (ji64)) x16_7]) x13_5 (rd x10_6 (ji58)) (wrap64 (x16_7 + 1))) else (none))) else (none)) else (none)) else (none)) else (spec_GcReach.l4 k7 a0 y101 x9_7 x10_7 x13_5)) else (none)) else (none)) = some r := by first | (rw [hji64] at H; exact H) | (simp only [hji64] at H ⊢; exact H)
                            have hji64w : (IntKind.i64.wrap ((rd x10_6 (ji58)) - 1)) = ji64 := (i64_w _).trans hji64
                            by_cases c65 : 0 ≤ (ji64)
                            ·rw [if_pos c65] at H
                             have c65b0 : decide (0 ≤ (ji64)) = true := decide_eq_true c65
                             clear c65
                             by_cases c66 : (ji64) < (x13_5.length : Int)
                             ·rw [if_pos c66] at H
                              have c66b0 : decide ((ji64) < (x13_5.length : Int)) = true := decide_eq_true c66
                              clear c66
                              by_cases c67 : x16_7 < ((rd_L3 x13_5 (ji64)).length : Int)
                              ·rw [if_pos c67] at H
                               have c67b0 : decide (x16_7 < ((rd_L3 x13_5 (ji64)).length : Int)) = true := decide_eq_true c67
                               clear c67
                               by_cases c68 : 0 ≤ x16_7
                               ·rw [if_pos c68] at H
                                have c68b0 : decide (0 ≤ x16_7) = true := decide_eq_true c68
                                clear c68
                                obtain ⟨ji69, hji69⟩ : ∃ j_ : Int, (wrap64 ((rd (rd_L3 x13_5 (ji64)) x16_7) - 1)) = j_ := ⟨_, rfl⟩
                                replace H : (if 0 ≤ (ji69) then (if (ji69) < (x9_7.length : Int) then (if (rdOf false x9_7 (ji69) = true) then (spec_GcReach.l5 k7 a0 y101 x9_7 x10_7 x13_5 (rd x10_6 (ji58)) (wrap64 (x16_7 + 1))) else (if x10_7.length < 17592186044416 then (spec_GcReach.l5 k7 a0 y101 (x9_7.set ((ji69) : Int).toNat true) (x10_7 ++ [rd (rd_L3 x13_5 (ji64)) x16_7]) x13_5 (rd x10_6 (ji58)) (wrap64 (x16_7 + 1))) else (none))) else (none)) else (none)) = some r := by first | (rw [hji69] at H; exact H) | (simp only [hji69] at H ⊢; exact H)
                                have hji69w : (IntKind.i64.wrap ((rd (rd_L3 x13_5 (ji64)) x16_7) - 1)) = ji69 := (i64_w _).trans hji69
                                by_cases c70 : 0 ≤ (ji69)
                                ·rw [if_pos c70] at H
                                 have c70b0 : decide (0 ≤ (ji69)) = true := decide_eq_true c70
                                 clear c70
                                 by_cases c71 : (ji69) < (x9_7.length : Int)
                                 ·rw [if_pos c71] at H
                                  have c71b0 : decide ((ji69) < (x9_7.length : Int)) = true := decide_eq_true c71
                                  clear c71
                                  obtain ⟨bq72, hbq72⟩ : ∃ b_ : Bool, b_ = (rdOf false x9_7 (ji69)) := ⟨_, rfl⟩
                                  replace H : (if (bq72 = true) then (spec_GcReach.l5 k7 a0 y101 x9_7 x10_7 x13_5 (rd x10_6 (ji58)) (wrap64 (x16_7 + 1))) else (if x10_7.length < 17592186044416 then (spec_GcReach.l5 k7 a0 y101 (x9_7.set ((ji69) : Int).toNat true) (x10_7 ++ [rd (rd_L3 x13_5 (ji64)) x16_7]) x13_5 (rd x10_6 (ji58)) (wrap64 (x16_7 + 1))) else (none))) = some r := by rw [← hbq72] at H; exact H
                                  have Nbq72 := Aside0.mk hbq72
                                  clear hbq72
                                  by_cases c73 : (bq72 = true)
                                  ·subst c73
                                   have H1 : (spec_GcReach.l5 k7 a0 y101 x9_7 x10_7 x13_5 (rd x10_6 (ji58)) (wrap64 (x16_7 + 1))) = some r := by rw [if_pos rfl] at H; exact H
                                   clear H
                                   have H := H1
                                   clear H1
                                   have H' := Aside0.mk H
                                   clear H
                                   obtain ⟨Ao74, co74, eo74⟩ := Kd.S_slice HO_13.out
                                   subst eo74
                                   have p139 : 0 ≤ ((ji64) : Int) := of_decide_eq_true (by first | (with_reducible assumption) | assumption)
                                   have q139 : (ji64) < (x13_5.length : Int) := of_decide_eq_true (by first | (with_reducible assumption) | assumption)
                                   obtain ⟨ad139, A139_0, c139_0, e139, hx139_0, hl139_0, hi139_0⟩ := at_L3 (Kd.S_reads' HO_13.out).2.2 (ji64) p139 q139
                                   cases e139
                                   obtain ⟨ce139, hce139, hMe139, hcc139⟩ := Kd.S_get HO_13.out [] (ji64) p139 (by first | exact q139 | exact of_decide_eq_true (by first | (with_reducible assumption) | assumption) | (have e_ := (Kd.S_reads' HO_13.out).1; omega))
                                   obtain ⟨ve139_0, rfl, ge139_0⟩ := hMe139
                                   have hv139_0 := hcc139 0 _ rfl
                                   rw [Nat.add_zero, show ((Kd.slice 2 (Kd.int .i64))).sz = 1 from rfl, Nat.mul_one] at hv139_0
                                   replace hv139_0 := Option.some.inj (hv139_0.symm.trans hx139_0)
                                   rw [hv139_0] at ge139_0
                                   have HL139_0 := Aside0.mk (show Kd.R (Kd.int .i64) 2 _ _ _ _ (rd_L3 x13_5 (ji64)) from ge139_0)
                                   clear hv139_0 ge139_0
                                   have HX139_0 := Aside0.mk hx139_0
                                   clear hcc139 hce139
                                   have HR139_0 := Aside0.mk hi139_0
                                   have HC139_0 := Aside0.mk hl139_0
                                   clear hi139_0 hl139_0
                                   replace p139 := eq_true p139
                                   replace q139 := eq_true q139
                                   have p140 : 0 ≤ ((ji64) : Int) := of_decide_eq_true (by first | (with_reducible assumption) | assumption)
                                   have q140 : (ji64) < (x13_5.length : Int) := of_decide_eq_true (by first | (with_reducible assumption) | assumption)
                                   obtain ⟨ad140, A140_0, c140_0, e140, hx140_0, hl140_0, hi140_0⟩ := at_L3 (Kd.S_reads' HO_13.out).2.2 (ji64) p140 q140
                                   obtain rfl : ad139 = ad140 := (by injection e140)
                                   obtain ⟨ce140, hce140, hMe140, hcc140⟩ := Kd.S_get HO_13.out [] (ji64) p140 (by first | exact q140 | exact of_decide_eq_true (by first | (with_reducible assumption) | assumption) | (have e_ := (Kd.S_reads' HO_13.out).1; omega))
                                   obtain ⟨ve140_0, rfl, ge140_0⟩ := hMe140
                                   have hv140_0 := hcc140 0 _ rfl
                                   rw [Nat.add_zero, show ((Kd.slice 2 (Kd.int .i64))).sz = 1 from rfl, Nat.mul_one] at hv140_0
                                   replace hv140_0 := Option.some.inj (hv140_0.symm.trans hx140_0)
                                   rw [hv140_0] at ge140_0
                                   have HL140_0 := Aside0.mk (show Kd.R (Kd.int .i64) 2 _ _ _ _ (rd_L3 x13_5 (ji64)) from ge140_0)
                                   clear hv140_0 ge140_0
                                   have HX140_0 := Aside0.mk hx140_0
                                   clear hcc140 hce140
                                   have HR140_0 := Aside0.mk hi140_0
                                   have HC140_0 := Aside0.mk hl140_0
                                   clear hi140_0 hl140_0
                                   replace p140 := eq_true p140
                                   replace q140 := eq_true q140
                                   have ea_ := Option.some.inj (hx139_0.symm.trans hx140_0)
                                   injection ea_ with ea_ en_ ec_
                                   subst ea_
                                   subst ec_
                                   clear en_
                                   have p141 : 0 ≤ (x16_7 : Int) := of_decide_eq_true (by first | (with_reducible assumption) | assumption)
                                   have q141 : x16_7 < ((rd_L3 x13_5 (ji64)).length : Int) := of_decide_eq_true (by first | (with_reducible assumption) | assumption)
                                   obtain ⟨ad141, e141, hx141_0⟩ := Kd.at_int (by repeat (first | (with_reducible exact HR140_0.out) | (with_reducible refine Kd.C_alloc ?_ _) | (with_reducible refine Kd.C_drewN ?_ _) | (with_reducible refine Kd.C_drew ?_) | exact HR140_0.out)) x16_7 p141 q141
                                   cases e141
                                   replace p141 := eq_true p141
                                   replace q141 := eq_true q141
                                   obtain ⟨Ao75, co75, eo75⟩ := Kd.R_slice HO_9.out
                                   subst eo75
                                   have p142 : 0 ≤ ((ji69) : Int) := of_decide_eq_true (by first | (with_reducible assumption) | assumption)
                                   have q142 : (ji69) < (x9_7.length : Int) := of_decide_eq_true (by first | (with_reducible assumption) | assumption)
                                   obtain ⟨ad142, e142, hx142_0⟩ := Kd.at_bool (Kd.R_reads' HO_9.out).2.2 (ji69) p142 q142
                                   (try rw [← Nbq72.out] at hx142_0)
                                   (try rw [← Nbq72.out] at hw142_0)
                                   cases e142
                                   replace p142 := eq_true p142
                                   replace q142 := eq_true q142
                                   go_wp2
                                   go_roundg k7
                                   case measure => have := HJ3.out; have := HK2.out; have := HK3.out; have := HK4.out; have := HK5.out; have := HK6.out; have := HK7.out; omega
                                   case rel => exact ⟨(x9_7), (x10_7), (wrap64 (x16_7 + 1)), (by first | rfl | (simp; done) | (simp [*]; done)), H', ⟨by have := HJ3.out; have := HK2.out; have := HK3.out; have := HK4.out; have := HK5.out; have := HK6.out; have := HK7.out; omega⟩, ⟨by (with_reducible repeat (first | apply Kd.R_alloc | apply Kd.R_drewN | apply Kd.R_drew)); exact HO_7.out⟩, ⟨by (with_reducible repeat (first | apply Kd.R_alloc | apply Kd.R_drewN | apply Kd.R_drew)); exact HO_9.out⟩, ⟨by (with_reducible repeat (first | apply Kd.R_alloc | apply Kd.R_drewN | apply Kd.R_drew)); exact HO_10.out⟩, ⟨by (with_reducible repeat (first | apply Kd.S_alloc | apply Kd.S_drewN | apply Kd.S_drew)); exact HO_13.out⟩, ⟨by repeat (first | (with_reducible first | exact HB.out | apply below_alloc | apply pw_below_drewN | apply below_drew1) | exact HB.out)⟩⟩
                                  ·replace c73 := Bool.eq_false_iff.mpr c73
                                   subst c73
                                   have H1 : (if x10_7.length < 17592186044416 then (spec_GcReach.l5 k7 a0 y101 (x9_7.set ((ji69) : Int).toNat true) (x10_7 ++ [rd (rd_L3 x13_5 (ji64)) x16_7]) x13_5 (rd x10_6 (ji58)) (wrap64 (x16_7 + 1))) else (none)) = some r := by rw [if_neg (show ¬ (false = true) by decide)] at H; exact H
                                   clear H
                                   have H := H1
                                   clear H1
                                   obtain ⟨y143, hy143⟩ : ∃ y_ : List Bool, y_ = (x9_7.set ((ji69) : Int).toNat true) := ⟨_, rfl⟩
                                   replace H : (if x10_7.length < 17592186044416 then (spec_GcReach.l5 k7 a0 y101 y143 (x10_7 ++ [rd (rd_L3 x13_5 (ji64)) x16_7]) x13_5 (rd x10_6 (ji58)) (wrap64 (x16_7 + 1))) else (none)) = some r := by first | (rw [hy143]; with_reducible exact H) | (have H2_ := (Option.bind_some _ _).symm.trans H; rw [hy143]; with_reducible exact H2_) | (have H2_ := (Option.bind_some _ _).symm.trans H; with_reducible exact H2_) | with_reducible exact H | (rw [hy143]; exact H) | exact H
                                   have Ny143 := Aside0.mk hy143
                                   clear hy143
                                   by_cases c77 : x10_7.length < 17592186044416
                                   ·rw [if_pos c77] at H
                                    have LMc77 := Aside0.mk c77
                                    clear c77
                                    obtain ⟨y144, hy144⟩ : ∃ y_ : List Int, y_ = (x10_7 ++ [rd (rd_L3 x13_5 (ji64)) x16_7]) := ⟨_, rfl⟩
                                    replace H : (spec_GcReach.l5 k7 a0 y101 y143 y144 x13_5 (rd x10_6 (ji58)) (wrap64 (x16_7 + 1))) = some r := by first | (rw [hy144]; with_reducible exact H) | (have H2_ := (Option.bind_some _ _).symm.trans H; rw [hy144]; with_reducible exact H2_) | (have H2_ := (Option.bind_some _ _).symm.trans H; with_reducible exact H2_) | with_reducible exact H | (rw [hy144]; exact H) | exact H
                                    have Ny144 := Aside0.mk hy144
                                    clear hy144
                                    have H' := Aside0.mk H
                                    clear H
                                    obtain ⟨Ao78, co78, eo78⟩ := Kd.S_slice HO_13.out
                                    subst eo78
                                    have p139 : 0 ≤ ((ji64) : Int) := of_decide_eq_true (by first | (with_reducible assumption) | assumption)
                                    have q139 : (ji64) < (x13_5.length : Int) := of_decide_eq_true (by first | (with_reducible assumption) | assumption)
                                    obtain ⟨ad139, A139_0, c139_0, e139, hx139_0, hl139_0, hi139_0⟩ := at_L3 (Kd.S_reads' HO_13.out).2.2 (ji64) p139 q139
                                    cases e139
                                    obtain ⟨ce139, hce139, hMe139, hcc139⟩ := Kd.S_get HO_13.out [] (ji64) p139 (by first | exact q139 | exact of_decide_eq_true (by first | (with_reducible assumption) | assumption) | (have e_ := (Kd.S_reads' HO_13.out).1; omega))
                                    obtain ⟨ve139_0, rfl, ge139_0⟩ := hMe139
                                    have hv139_0 := hcc139 0 _ rfl
                                    rw [Nat.add_zero, show ((Kd.slice 2 (Kd.int .i64))).sz = 1 from rfl, Nat.mul_one] at hv139_0
                                    replace hv139_0 := Option.some.inj (hv139_0.symm.trans hx139_0)
                                    rw [hv139_0] at ge139_0
                                    have HL139_0 := Aside0.mk (show Kd.R (Kd.int .i64) 2 _ _ _ _ (rd_L3 x13_5 (ji64)) from ge139_0)
                                    clear hv139_0 ge139_0
                                    have HX139_0 := Aside0.mk hx139_0
                                    clear hcc139 hce139
                                    have HR139_0 := Aside0.mk hi139_0
                                    have HC139_0 := Aside0.mk hl139_0
                                    clear hi139_0 hl139_0
                                    replace p139 := eq_true p139
                                    replace q139 := eq_true q139
                                    have p140 : 0 ≤ ((ji64) : Int) := of_decide_eq_true (by first | (with_reducible assumption) | assumption)
                                    have q140 : (ji64) < (x13_5.length : Int) := of_decide_eq_true (by first | (with_reducible assumption) | assumption)
                                    obtain ⟨ad140, A140_0, c140_0, e140, hx140_0, hl140_0, hi140_0⟩ := at_L3 (Kd.S_reads' HO_13.out).2.2 (ji64) p140 q140
                                    obtain rfl : ad139 = ad140 := (by injection e140)
                                    obtain ⟨ce140, hce140, hMe140, hcc140⟩ := Kd.S_get HO_13.out [] (ji64) p140 (by first | exact q140 | exact of_decide_eq_true (by first | (with_reducible assumption) | assumption) | (have e_ := (Kd.S_reads' HO_13.out).1; omega))
                                    obtain ⟨ve140_0, rfl, ge140_0⟩ := hMe140
                                    have hv140_0 := hcc140 0 _ rfl
                                    rw [Nat.add_zero, show ((Kd.slice 2 (Kd.int .i64))).sz = 1 from rfl, Nat.mul_one] at hv140_0
                                    replace hv140_0 := Option.some.inj (hv140_0.symm.trans hx140_0)
                                    rw [hv140_0] at ge140_0
                                    have HL140_0 := Aside0.mk (show Kd.R (Kd.int .i64) 2 _ _ _ _ (rd_L3 x13_5 (ji64)) from ge140_0)
                                    clear hv140_0 ge140_0
                                    have HX140_0 := Aside0.mk hx140_0
                                    clear hcc140 hce140
                                    have HR140_0 := Aside0.mk hi140_0
                                    have HC140_0 := Aside0.mk hl140_0
                                    clear hi140_0 hl140_0
                                    replace p140 := eq_true p140
                                    replace q140 := eq_true q140
                                    have ea_ := Option.some.inj (hx139_0.symm.trans hx140_0)
                                    injection ea_ with ea_ en_ ec_
                                    subst ea_
                                    subst ec_
                                    clear en_
                                    have p141 : 0 ≤ (x16_7 : Int) := of_decide_eq_true (by first | (with_reducible assumption) | assumption)
                                    have q141 : x16_7 < ((rd_L3 x13_5 (ji64)).length : Int) := of_decide_eq_true (by first | (with_reducible assumption) | assumption)
                                    obtain ⟨ad141, e141, hx141_0⟩ := Kd.at_int (by repeat (first | (with_reducible exact HR140_0.out) | (with_reducible refine Kd.C_alloc ?_ _) | (with_reducible refine Kd.C_drewN ?_ _) | (with_reducible refine Kd.C_drew ?_) | exact HR140_0.out)) x16_7 p141 q141
                                    cases e141
                                    replace p141 := eq_true p141
                                    replace q141 := eq_true q141
                                    obtain ⟨Ao79, co79, eo79⟩ := Kd.R_slice HO_9.out
                                    subst eo79
                                    have p142 : 0 ≤ ((ji69) : Int) := of_decide_eq_true (by first | (with_reducible assumption) | assumption)
                                    have q142 : (ji69) < (x9_7.length : Int) := of_decide_eq_true (by first | (with_reducible assumption) | assumption)
                                    obtain ⟨ad142, e142, hx142_0⟩ := Kd.at_bool (Kd.R_reads' HO_9.out).2.2 (ji69) p142 q142
                                    (try rw [← Nbq72.out] at hx142_0)
                                    (try rw [← Nbq72.out] at hw142_0)
                                    cases e142
                                    replace p142 := eq_true p142
                                    replace q142 := eq_true q142
                                    have p76 : 0 ≤ ((ji69) : Int) := of_decide_eq_true (by first | (with_reducible assumption) | assumption)
                                    have q76 : ((ji69) : Int) < ((x9_7.length : Int) : Int) := of_decide_eq_true (by first | (with_reducible assumption) | assumption)
                                    obtain ⟨go76, co76, eo76, gb76, gl76, cl76, HG76⟩ := Kd.R_form HO_9.out (by omega)
                                    (first | cases eo76 | (injection eo76 with ea_ en_ ec_; (first | subst ea_ | (injection ea_ with ea_; subst ea_)); subst ec_; clear en_))
                                    have GB76 := Aside0.mk gb76
                                    have GG76 := Aside0.mk HG76
                                    clear gb76 gl76 HG76
                                    (first | simp only [add_plain] at hx142_0 | skip)
                                    obtain ⟨hx76_0, hf76_0⟩ := Kd.R_celln false HO_9.out ((ji69) : Int) p76 q76
                                    replace p76 := eq_true p76
                                    replace q76 := eq_true q76
                                    have HP80 := Kd.R_putg HO_9.out ((ji69) : Int) true
                                    go_wp2_with (first | ((with_reducible refine gate_store (t := 4) (p := 191) rfl ?_); refine store_event (t := 4) (p := 191) (v := ?vo_w81) (w1 := (wr.setCell ⟨go76, ((ji69) : Int).toNat, none⟩ (.bool true))) ?hg ?ho ?hn ?hr ?_; (case ho => rfl); (case hg => rfl); (case hn => rfl); (case hr => first | (go_simp; done) | (go_simp; rfl)); intro w81 hw; have hg : wr.grownBy w81 (some go76) := (by rw [hw]; exact HP80.2); have hp_ : Kd.R Kd.bool 4 w81 w.heap.size (fun _ => True) (.slice (some ⟨go76, 0, none⟩) x9_7.length co79) y143 := (by rw [hw, Ny143.out]; exact HP80.1); clear HP80; have n0_ := Aside0.mk (Kd.R_over' (v := (.slice (some ⟨go76, 0, none⟩) x9_7.length co79)) (by (with_reducible repeat (first | apply Kd.R_alloc | apply Kd.R_drewN | apply Kd.R_drew)); exact HO_7.out) (Kd.R_typed HO_9.out) (by decide) hg); have n1_ := Aside0.mk (hp_); have n2_ := Aside0.mk (Kd.R_over' (v := (.slice (some ⟨go76, 0, none⟩) x9_7.length co79)) (by (with_reducible repeat (first | apply Kd.R_alloc | apply Kd.R_drewN | apply Kd.R_drew)); exact HO_10.out) (Kd.R_typed HO_9.out) (by decide) hg); have n3_ := Aside0.mk (Kd.S_over' (v := (.slice (some ⟨go76, 0, none⟩) x9_7.length co79)) (by (with_reducible repeat (first | apply Kd.S_alloc | apply Kd.S_drewN | apply Kd.S_drew)); exact HO_13.out) (Kd.R_typed HO_9.out) (by decide) hg); have n4_ := Aside0.mk (Kd.R_over' (v := (.slice (some ⟨go76, 0, none⟩) x9_7.length co79)) (by (with_reducible repeat (first | apply Kd.R_alloc | apply Kd.R_drewN | apply Kd.R_drew)); exact HL139_0.out) (Kd.R_typed HO_9.out) (by decide) hg); have n5_ := Aside0.mk (Kd.R_over' (v := (.slice (some ⟨go76, 0, none⟩) x9_7.length co79)) (by (with_reducible repeat (first | apply Kd.R_alloc | apply Kd.R_drewN | apply Kd.R_drew)); exact HL140_0.out) (Kd.R_typed HO_9.out) (by decide) hg); have n6_ := Aside0.mk ((by rw [hw]; exact below_set (HB.out) GB76.out : Below w.heap.size w w81)); clear HO_7; clear HO_9; clear HO_10; clear HO_13; clear HL139_0; clear HL140_0; clear HB; have HO_7 := n0_; have HO_9 := n1_; have HO_10 := n2_; have HO_13 := n3_; have HL139_0 := n4_; have HL140_0 := n5_; have HB := n6_; clear n0_ n1_ n2_ n3_ n4_ n5_ n6_; clear hg hw hp_) | ((with_reducible refine gate_builtin (b := .append) (xs := #[.tmp 192, .tmp 194]) rfl ?_); at_builtin; refine Kd.R_append (Kd.int .i64) (w0 := w) w.heap.size rfl (.tmp 192) (.tmp 194) 23 2 (.int .i64 0) 8 rfl Try.underlying23 info2 rfl (by decide) (by omega) u10 x10_7 (rd (rd_L3 x13_5 (ji64)) x16_7) [.int .i64 (rd (rd_L3 x13_5 (ji64)) x16_7)] (fun k_ => some k_ ≠ (v102 : Value).ownBlock) (fun _ => False) rfl rfl ?aP (fun _ hk => hk.elim) ?aF ?aO ?aB ?aS ?aL ?_; (case aP => exact rfl); (case aB => exact (by repeat (first | (with_reducible first | exact HB.out | apply below_alloc | apply pw_below_drewN | apply below_drew1) | exact HB.out))); (case aF => exact (fun k_ hk => Kd.fresh' (Kd.R_lt (by (with_reducible repeat (first | apply Kd.R_alloc | apply Kd.R_drewN | apply Kd.R_drew)); exact HO_7.out)) k_ hk)); (case aO => exact (by (with_reducible repeat (first | apply Kd.R_alloc | apply Kd.R_drewN | apply Kd.R_drew)); exact HO_10.out)); (case aS => exact (below_size (by repeat (first | (with_reducible first | exact HB.out | apply below_alloc | apply pw_below_drewN | apply below_drew1) | exact HB.out)))); (case aL => have := LMc77.out; omega); intro v145 w82 ho hb hg hat; rw [← Ny144.out] at ho; have n0_ := Aside0.mk (Kd.R_after (ok := (fun _ => True)) (by (with_reducible repeat (first | apply Kd.R_alloc | apply Kd.R_drewN | apply Kd.R_drew)); exact Kd.R_mono HO_7.out (fun _ hk => ⟨trivial, hk⟩)) hg hat); have n1_ := Aside0.mk (Kd.R_over' (by (with_reducible repeat (first | apply Kd.R_alloc | apply Kd.R_drewN | apply Kd.R_drew)); exact HO_9.out) (Kd.R_typed (by (with_reducible repeat (first | apply Kd.R_alloc | apply Kd.R_drewN | apply Kd.R_drew)); exact HO_10.out)) (by decide) hg); have n2_ := Aside0.mk (Kd.S_after (ok := (fun k_ => some k_ ≠ (v102 : Value).ownBlock)) (by (with_reducible repeat (first | apply Kd.S_alloc | apply Kd.S_drewN | apply Kd.S_drew)); exact HO_13.out) hg hat); have n3_ := Aside0.mk (Kd.R_after (ok := (fun k_ => some k_ ≠ (v102 : Value).ownBlock ∧ some k_ ≠ (.slice (some ad139) x13_5.length co78 : Value).ownBlock)) (by (with_reducible repeat (first | apply Kd.R_alloc | apply Kd.R_drewN | apply Kd.R_drew)); exact Kd.R_mono HL139_0.out (fun _ hk => ⟨⟨hk.1.1, hk.2⟩, hk.1.2⟩)) hg hat); have n4_ := Aside0.mk (Kd.R_after (ok := (fun k_ => some k_ ≠ (v102 : Value).ownBlock ∧ some k_ ≠ (.slice (some ad139) x13_5.length co78 : Value).ownBlock)) (by (with_reducible repeat (first | apply Kd.R_alloc | apply Kd.R_drewN | apply Kd.R_drew)); exact Kd.R_mono HL140_0.out (fun _ hk => ⟨⟨hk.1.1, hk.2⟩, hk.1.2⟩)) hg hat); have n5_ := Aside0.mk (hb); have n6_ := Aside0.mk (ho); clear HO_7; clear HO_9; clear HO_13; clear HL139_0; clear HL140_0; clear HB; clear HO_10; have HO_7 := n0_; have HO_9 := n1_; have HO_13 := n2_; have HL139_0 := n3_; have HL140_0 := n4_; have HB := n5_; have HO146 := n6_; clear n0_ n1_ n2_ n3_ n4_ n5_ n6_; clear ho hb hg hat))
                                    go_roundg k7
                                    case measure => have := HJ3.out; have := HK2.out; have := HK3.out; have := HK4.out; have := HK5.out; have := HK6.out; have := HK7.out; omega
                                    case rel => exact ⟨(y143), (y144), (wrap64 (x16_7 + 1)), (by first | rfl | (simp; done) | (simp [*]; done)), H', ⟨by have := HJ3.out; have := HK2.out; have := HK3.out; have := HK4.out; have := HK5.out; have := HK6.out; have := HK7.out; omega⟩, ⟨by (with_reducible repeat (first | apply Kd.R_alloc | apply Kd.R_drewN | apply Kd.R_drew)); exact Kd.R_mono HO_7.out (fun _ hk => hk.2)⟩, ⟨by (with_reducible repeat (first | apply Kd.R_alloc | apply Kd.R_drewN | apply Kd.R_drew)); exact HO_9.out⟩, ⟨by (with_reducible repeat (first | apply Kd.R_alloc | apply Kd.R_drewN | apply Kd.R_drew)); exact HO146.out⟩, ⟨by (with_reducible repeat (first | apply Kd.S_alloc | apply Kd.S_drewN | apply Kd.S_drew)); exact HO_13.out⟩, ⟨by repeat (first | (with_reducible first | exact HB.out | apply below_alloc | apply pw_below_drewN | apply below_drew1) | exact HB.out)⟩⟩
                                   ·rw [if_neg c77] at H
                                    exact absurd H (by simp)
                                 ·rw [if_neg c71] at H
                                  exact absurd H (by simp)
                                ·rw [if_neg c70] at H
                                 exact absurd H (by simp)
                               ·rw [if_neg c68] at H
                                exact absurd H (by simp)
                              ·rw [if_neg c67] at H
                               have c67b0 : decide (x16_7 < ((rd_L3 x13_5 (ji64)).length : Int)) = false := decide_eq_false c67
                               clear c67
                               have H' := Aside0.mk H
                               clear H
                               obtain ⟨Ao83, co83, eo83⟩ := Kd.S_slice HO_13.out
                               subst eo83
                               have p139 : 0 ≤ ((ji64) : Int) := of_decide_eq_true (by first | (with_reducible assumption) | assumption)
                               have q139 : (ji64) < (x13_5.length : Int) := of_decide_eq_true (by first | (with_reducible assumption) | assumption)
                               obtain ⟨ad139, A139_0, c139_0, e139, hx139_0, hl139_0, hi139_0⟩ := at_L3 (Kd.S_reads' HO_13.out).2.2 (ji64) p139 q139
                               cases e139
                               obtain ⟨ce139, hce139, hMe139, hcc139⟩ := Kd.S_get HO_13.out [] (ji64) p139 (by first | exact q139 | exact of_decide_eq_true (by first | (with_reducible assumption) | assumption) | (have e_ := (Kd.S_reads' HO_13.out).1; omega))
                               obtain ⟨ve139_0, rfl, ge139_0⟩ := hMe139
                               have hv139_0 := hcc139 0 _ rfl
                               rw [Nat.add_zero, show ((Kd.slice 2 (Kd.int .i64))).sz = 1 from rfl, Nat.mul_one] at hv139_0
                               replace hv139_0 := Option.some.inj (hv139_0.symm.trans hx139_0)
                               rw [hv139_0] at ge139_0
                               have HL139_0 := Aside0.mk (show Kd.R (Kd.int .i64) 2 _ _ _ _ (rd_L3 x13_5 (ji64)) from ge139_0)
                               clear hv139_0 ge139_0
                               have HX139_0 := Aside0.mk hx139_0
                               clear hcc139 hce139
                               have HR139_0 := Aside0.mk hi139_0
                               have HC139_0 := Aside0.mk hl139_0
                               clear hi139_0 hl139_0
                               replace p139 := eq_true p139
                               replace q139 := eq_true q139
                               go_wp2
                               go_roundg k7
                               case measure => have := HJ3.out; have := HK2.out; have := HK3.out; have := HK4.out; have := HK5.out; have := HK6.out; have := HK7.out; omega
                               case rel => exact ⟨(x9_7), (x10_7), H', ⟨by have := HJ3.out; have := HK2.out; have := HK3.out; have := HK4.out; have := HK5.out; have := HK6.out; have := HK7.out; omega⟩, ⟨by (with_reducible repeat (first | apply Kd.R_alloc | apply Kd.R_drewN | apply Kd.R_drew)); exact HO_7.out⟩, ⟨by (with_reducible repeat (first | apply Kd.R_alloc | apply Kd.R_drewN | apply Kd.R_drew)); exact HO_9.out⟩, ⟨by (with_reducible repeat (first | apply Kd.R_alloc | apply Kd.R_drewN | apply Kd.R_drew)); exact HO_10.out⟩, ⟨by (with_reducible repeat (first | apply Kd.S_alloc | apply Kd.S_drewN | apply Kd.S_drew)); exact HO_13.out⟩, ⟨by repeat (first | (with_reducible first | exact HB.out | apply below_alloc | apply pw_below_drewN | apply below_drew1) | exact HB.out)⟩⟩
                             ·rw [if_neg c66] at H
                              exact absurd H (by simp)
                            ·rw [if_neg c65] at H
                             exact absurd H (by simp)
                         ·rw [if_neg c61] at H
                          exact absurd H (by simp)
                        ·rw [if_neg c60] at H
                         exact absurd H (by simp)
                       ·rw [if_neg c59] at H
                        exact absurd H (by simp)
                      ·rw [if_neg c57] at H
                       have c57b0 : decide (0 < (x10_6.length : Int)) = false := decide_eq_false c57
                       have c57b1 : decide (0 < x10_6.length) = false := decide_eq_false (by omega)
                       clear c57
                       have H' := Aside0.mk H
                       clear H
                       obtain ⟨Ao84, co84, eo84⟩ := Kd.R_slice HO_10.out
                       subst eo84
                       go_wp2
                       go_loopg [7, 18] k6 (fun kq v7 v18 w' => ∃ (x7_7 : List Int) (x18_7 : Int), v18 = .int .i64 x18_7 ∧ Aside0 (spec_GcReach.l6 kq a0 x7_7 x9_6 x18_7 = some r) ∧ Aside0 (kq ≤ k6) ∧ Aside0 (Kd.R (Kd.int .i64) 2 w' w.heap.size (fun _ => True) v7 x7_7) ∧ Aside0 (Kd.R Kd.bool 4 w' w.heap.size (fun _ => True) v109 x9_6) ∧ Aside0 (Below w.heap.size w w'))
                       case atStart => exact ⟨(y101), (0), (by first | rfl | (simp; done) | (simp [*]; done)), H', ⟨Nat.le_refl _⟩, ⟨by (with_reducible repeat (first | apply Kd.R_alloc | apply Kd.R_drewN | apply Kd.R_drew)); exact Kd.R_mono HO_7.out (fun _ hk => trivial)⟩, ⟨by (with_reducible repeat (first | apply Kd.R_alloc | apply Kd.R_drewN | apply Kd.R_drew)); exact HO_9.out⟩, ⟨by repeat (first | (with_reducible first | exact HB.out | apply below_alloc | apply pw_below_drewN | apply below_drew1) | exact HB.out)⟩⟩
                       case round =>
                        clear H'
                        try clear c1
                        try clear p1
                        try clear q1
                        try clear hx1
                        try clear c2
                        try clear p2
                        try clear c3
                        try clear p3
                        try clear q3
                        try clear hx3
                        try clear hf3
                        try clear c4
                        try clear p4
                        try clear q4
                        try clear c5
                        try clear hx5
                        try clear hf5
                        try clear c6
                        try clear p6
                        try clear q6
                        try clear c7
                        try clear c7b0
                        try clear p7
                        try clear q7
                        try clear hx7
                        try clear hf7
                        try clear c8
                        try clear c9
                        try clear c9b0
                        try clear c10
                        try clear c10b0
                        try clear p10
                        try clear q10
                        try clear hx10
                        try clear c11
                        try clear c11b0
                        try clear p11
                        try clear q11
                        try clear hx11
                        try clear c12
                        try clear c12b0
                        try clear p12
                        try clear q12
                        try clear hx12
                        try clear c13
                        try clear c13b0
                        try clear p13
                        try clear q13
                        try clear hx13
                        try clear c14
                        try clear c14b0
                        try clear p14
                        try clear q14
                        try clear hx14
                        try clear c15
                        try clear c15b0
                        try clear c15b1
                        try clear c16
                        try clear c16b0
                        try clear c16b1
                        try clear c21
                        try clear c21b0
                        try clear c22
                        try clear c22b0
                        try clear c23
                        try clear c23b0
                        try clear c24
                        try clear c24b0
                        try clear c25
                        try clear c25b0
                        try clear c26
                        try clear c26b0
                        try clear c28
                        try clear c28b0
                        try clear c29
                        try clear c29b0
                        try clear q30
                        try clear c31
                        try clear p33
                        try clear q33
                        try clear hx33
                        try clear hf33
                        try clear c34
                        try clear c39
                        try clear c39b0
                        try clear c39b1
                        try clear c40
                        try clear c40b0
                        try clear c40b1
                        try clear c43
                        try clear c43b0
                        try clear c44
                        try clear c44b0
                        try clear c46
                        try clear c46b0
                        try clear c47
                        try clear c47b0
                        try clear c48
                        try clear p49
                        try clear q49
                        try clear c52
                        try clear c54
                        try clear hx54
                        try clear hf54
                        try clear c57
                        try clear c57b0
                        try clear c57b1
                        try clear c59
                        try clear c59b0
                        try clear c60
                        try clear c60b0
                        try clear c61
                        try clear c61b0
                        try clear c61b1
                        try clear q63
                        try clear p64
                        try clear c65
                        try clear c65b0
                        try clear c66
                        try clear c66b0
                        try clear c67
                        try clear c67b0
                        try clear c68
                        try clear c68b0
                        try clear c70
                        try clear c70b0
                        try clear c71
                        try clear c71b0
                        try clear q72
                        try clear c73
                        try clear p76
                        try clear q76
                        try clear hx76
                        try clear hf76
                        try clear c77
                        try clear hx104_0
                        try clear hx104_1
                        try clear hx104_2
                        try clear hx105_0
                        try clear hx105_1
                        try clear hx105_2
                        try clear hx106_0
                        try clear hx106_1
                        try clear hx106_2
                        try clear hx107_0
                        try clear hx107_1
                        try clear hx107_2
                        try clear hx114_0
                        try clear hx115_0
                        try clear hx116_0
                        try clear hx117_0
                        try clear hx118_0
                        try clear hx120_0
                        try clear hx127_0
                        try clear hx127_1
                        try clear hx127_2
                        try clear hx128_0
                        try clear hx128_1
                        try clear hx128_2
                        try clear hx129_0
                        try clear hx130_0
                        try clear hx130_1
                        try clear hx130_2
                        try clear hx135_0
                        try clear hx139_0
                        try clear hx140_0
                        try clear hx141_0
                        try clear hx142_0
                        try clear hx33_0
                        try clear hx54_0
                        try clear hx76_0
                        try clear p1
                        try clear p10
                        try clear p104
                        try clear p105
                        try clear p106
                        try clear p107
                        try clear p11
                        try clear p114
                        try clear p115
                        try clear p116
                        try clear p117
                        try clear p118
                        try clear p12
                        try clear p120
                        try clear p127
                        try clear p128
                        try clear p129
                        try clear p13
                        try clear p130
                        try clear p135
                        try clear p139
                        try clear p140
                        try clear p141
                        try clear p142
                        try clear p2
                        try clear p3
                        try clear p33
                        try clear p4
                        try clear p49
                        try clear p6
                        try clear p76
                        try clear q1
                        try clear q10
                        try clear q104
                        try clear q105
                        try clear q106
                        try clear q107
                        try clear q11
                        try clear q114
                        try clear q115
                        try clear q116
                        try clear q117
                        try clear q118
                        try clear q12
                        try clear q120
                        try clear q127
                        try clear q128
                        try clear q129
                        try clear q13
                        try clear q130
                        try clear q135
                        try clear q139
                        try clear q140
                        try clear q141
                        try clear q142
                        try clear q3
                        try clear q30
                        try clear q33
                        try clear q4
                        try clear q49
                        try clear q6
                        try clear q63
                        try clear q76
                        obtain ⟨x7_7, x18_7, rfl, HA, HK7, HO_7, HO_9, HB⟩ := hrel
                        cases gk with
                        | zero => exact absurd HA.out (by simp [spec_GcReach.l6])
                        | succ k7 =>
                         have H := HA.out
                         clear HA
                         simp only [spec_GcReach.l6] at H
                         by_cases c85 : x18_7 < a0
                         ·rw [if_pos c85] at H
                          have c85b0 : decide (x18_7 < a0) = true := decide_eq_true c85
                          clear c85
                          by_cases c86 : 0 ≤ x18_7
                          ·rw [if_pos c86] at H
                           have c86b0 : decide (0 ≤ x18_7) = true := decide_eq_true c86
                           clear c86
                           by_cases c87 : x18_7 < (x9_6.length : Int)
                           ·rw [if_pos c87] at H
                            have c87b0 : decide (x18_7 < (x9_6.length : Int)) = true := decide_eq_true c87
                            clear c87
                            obtain ⟨bq88, hbq88⟩ : ∃ b_ : Bool, b_ = (rdOf false x9_6 x18_7) := ⟨_, rfl⟩
                            replace H : (if bq88 = true then (if x7_7.length < 17592186044416 then (spec_GcReach.l6 k7 a0 (x7_7 ++ [wrap64 (x18_7 + 1)]) x9_6 (wrap64 (x18_7 + 1))) else (none)) else (spec_GcReach.l6 k7 a0 x7_7 x9_6 (wrap64 (x18_7 + 1)))) = some r := by rw [← hbq88] at H; exact H
                            have Nbq88 := Aside0.mk hbq88
                            clear hbq88
                            by_cases c89 : bq88 = true
                            ·subst c89
                             have H1 : (if x7_7.length < 17592186044416 then (spec_GcReach.l6 k7 a0 (x7_7 ++ [wrap64 (x18_7 + 1)]) x9_6 (wrap64 (x18_7 + 1))) else (none)) = some r := by rw [if_pos rfl] at H; exact H
                             clear H
                             have H := H1
                             clear H1
                             by_cases c90 : x7_7.length < 17592186044416
                             ·rw [if_pos c90] at H
                              have LMc90 := Aside0.mk c90
                              clear c90
                              obtain ⟨y148, hy148⟩ : ∃ y_ : List Int, y_ = (x7_7 ++ [wrap64 (x18_7 + 1)]) := ⟨_, rfl⟩
                              replace H : (spec_GcReach.l6 k7 a0 y148 x9_6 (wrap64 (x18_7 + 1))) = some r := by first | (rw [hy148]; with_reducible exact H) | (have H2_ := (Option.bind_some _ _).symm.trans H; rw [hy148]; with_reducible exact H2_) | (have H2_ := (Option.bind_some _ _).symm.trans H; with_reducible exact H2_) | with_reducible exact H | (rw [hy148]; exact H) | exact H
                              have Ny148 := Aside0.mk hy148
                              clear hy148
                              have H' := Aside0.mk H
                              clear H
                              obtain ⟨Ao91, co91, eo91⟩ := Kd.R_slice HO_9.out
                              subst eo91
                              have p147 : 0 ≤ (x18_7 : Int) := of_decide_eq_true (by first | (with_reducible assumption) | assumption)
                              have q147 : x18_7 < (x9_6.length : Int) := of_decide_eq_true (by first | (with_reducible assumption) | assumption)
                              obtain ⟨ad147, e147, hx147_0⟩ := Kd.at_bool (Kd.R_reads' HO_9.out).2.2 x18_7 p147 q147
                              (try rw [← Nbq88.out] at hx147_0)
                              (try rw [← Nbq88.out] at hw147_0)
                              cases e147
                              replace p147 := eq_true p147
                              replace q147 := eq_true q147
                              go_wp2_with (first | ((with_reducible refine gate_builtin (b := .append) (xs := #[.tmp 205, .tmp 208]) rfl ?_); at_builtin; refine Kd.R_append (Kd.int .i64) (w0 := w) w.heap.size rfl (.tmp 205) (.tmp 208) 23 2 (.int .i64 0) 8 rfl Try.underlying23 info2 rfl (by decide) (by omega) u7 x7_7 (wrap64 (x18_7 + 1)) [.int .i64 (wrap64 (x18_7 + 1))] (fun _ => True) (fun _ => False) rfl rfl ?aP (fun _ hk => hk.elim) ?aF ?aO ?aB ?aS ?aL ?_; (case aP => exact rfl); (case aB => exact (by repeat (first | (with_reducible first | exact HB.out | apply below_alloc | apply pw_below_drewN | apply below_drew1) | exact HB.out))); (case aF => exact (fun _ _ => trivial)); (case aO => exact (by (with_reducible repeat (first | apply Kd.R_alloc | apply Kd.R_drewN | apply Kd.R_drew)); exact HO_7.out)); (case aS => exact (below_size (by repeat (first | (with_reducible first | exact HB.out | apply below_alloc | apply pw_below_drewN | apply below_drew1) | exact HB.out)))); (case aL => have := LMc90.out; omega); intro v149 w92 ho hb hg hat; rw [← Ny148.out] at ho; have n0_ := Aside0.mk (Kd.R_over' (by (with_reducible repeat (first | apply Kd.R_alloc | apply Kd.R_drewN | apply Kd.R_drew)); exact HO_9.out) (Kd.R_typed (by (with_reducible repeat (first | apply Kd.R_alloc | apply Kd.R_drewN | apply Kd.R_drew)); exact HO_7.out)) (by decide) hg); have n1_ := Aside0.mk (hb); have n2_ := Aside0.mk (ho); clear HO_9; clear HB; clear HO_7; have HO_9 := n0_; have HB := n1_; have HO150 := n2_; clear n0_ n1_ n2_; clear ho hb hg hat))
                              go_roundg k7
                              case measure => have := HJ3.out; have := HK2.out; have := HK3.out; have := HK4.out; have := HK5.out; have := HK6.out; have := HK7.out; omega
                              case rel => exact ⟨(y148), (wrap64 (x18_7 + 1)), (by first | rfl | (simp; done) | (simp [*]; done)), H', ⟨by have := HJ3.out; have := HK2.out; have := HK3.out; have := HK4.out; have := HK5.out; have := HK6.out; have := HK7.out; omega⟩, ⟨by (with_reducible repeat (first | apply Kd.R_alloc | apply Kd.R_drewN | apply Kd.R_drew)); exact HO150.out⟩, ⟨by (with_reducible repeat (first | apply Kd.R_alloc | apply Kd.R_drewN | apply Kd.R_drew)); exact HO_9.out⟩, ⟨by repeat (first | (with_reducible first | exact HB.out | apply below_alloc | apply pw_below_drewN | apply below_drew1) | exact HB.out)⟩⟩
                             ·rw [if_neg c90] at H
                              exact absurd H (by simp)
                            ·replace c89 := Bool.eq_false_iff.mpr c89
                             subst c89
                             have H1 : (spec_GcReach.l6 k7 a0 x7_7 x9_6 (wrap64 (x18_7 + 1))) = some r := by rw [if_neg (show ¬ (false = true) by decide)] at H; exact H
                             clear H
                             have H := H1
                             clear H1
                             have H' := Aside0.mk H
                             clear H
                             obtain ⟨Ao93, co93, eo93⟩ := Kd.R_slice HO_9.out
                             subst eo93
                             have p147 : 0 ≤ (x18_7 : Int) := of_decide_eq_true (by first | (with_reducible assumption) | assumption)
                             have q147 : x18_7 < (x9_6.length : Int) := of_decide_eq_true (by first | (with_reducible assumption) | assumption)
                             obtain ⟨ad147, e147, hx147_0⟩ := Kd.at_bool (Kd.R_reads' HO_9.out).2.2 x18_7 p147 q147
                             (try rw [← Nbq88.out] at hx147_0)
                             (try rw [← Nbq88.out] at hw147_0)
                             cases e147
                             replace p147 := eq_true p147
                             replace q147 := eq_true q147
                             go_wp2
                             go_roundg k7
                             case measure => have := HJ3.out; have := HK2.out; have := HK3.out; have := HK4.out; have := HK5.out; have := HK6.out; have := HK7.out; omega
                             case rel => exact ⟨(x7_7), (wrap64 (x18_7 + 1)), (by first | rfl | (simp; done) | (simp [*]; done)), H', ⟨by have := HJ3.out; have := HK2.out; have := HK3.out; have := HK4.out; have := HK5.out; have := HK6.out; have := HK7.out; omega⟩, ⟨by (with_reducible repeat (first | apply Kd.R_alloc | apply Kd.R_drewN | apply Kd.R_drew)); exact HO_7.out⟩, ⟨by (with_reducible repeat (first | apply Kd.R_alloc | apply Kd.R_drewN | apply Kd.R_drew)); exact HO_9.out⟩, ⟨by repeat (first | (with_reducible first | exact HB.out | apply below_alloc | apply pw_below_drewN | apply below_drew1) | exact HB.out)⟩⟩
                           ·rw [if_neg c87] at H
                            exact absurd H (by simp)
                          ·rw [if_neg c86] at H
                           exact absurd H (by simp)
                         ·rw [if_neg c85] at H
                          have c85b0 : decide (x18_7 < a0) = false := decide_eq_false c85
                          clear c85
                          obtain rfl := Option.some.inj H
                          go_wp2
                          go_ret
                          exact ⟨_, by first | rfl | (simp [errW_none, errW_some] <;> rfl) | (simp [*, errW_none, errW_some] <;> rfl), by (with_reducible repeat (first | apply Kd.R_alloc | apply Kd.R_drewN | apply Kd.R_drew)); exact HO_7.out, by repeat (first | (with_reducible first | exact HB.out | apply below_alloc | apply pw_below_drewN | apply below_drew1) | exact HB.out)⟩
                ·rw [if_neg c40] at H
                 exact absurd H (by simp)
               ·rw [if_neg c39] at H
                exact absurd H (by simp)
        ·rw [if_neg c16] at H
         exact absurd H (by simp)
       ·rw [if_neg c15] at H
        exact absurd H (by simp)

end Go.Proofs.Ythpdhahjpjhfiaa.PR
