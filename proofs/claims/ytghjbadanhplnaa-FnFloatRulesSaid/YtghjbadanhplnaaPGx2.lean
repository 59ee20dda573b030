/- Go functions as Lean functions, and that each Go function comes to just that; printed by a program of this session (gprint.py over the kit's print.py). No condition. -/
import Derived.Test.YtghjbadanhplnaaPFx9
import Derived.Test.YtghjbadanhplnaaPGx1
import Derived.Test.YtghjbadanhplnaaPGx4
import Derived.Test.YtghjbadanhplnaaPFx1
import Derived.Test.YtghjbadanhplnaaPFx2
import Derived.Test.YtghjbadanhplnaaPFx4
namespace Go.Proofs.Ytghjbadanhplnaa.PF
open Go.RowKit Go.Proofs.YtghjbadanhplnaaW.PrintWords Go.Proofs.YtghjbadanhplnaaW.PrintLast Go.Proofs.YtghjbadanhplnaaW.PrintMore
attribute [local go_sem] max2_int min2_int max_two min_two max_three min_three max_four min_four   -- for this text's walks alone
set_option linter.unusedVariables false
set_option linter.unusedSimpArgs false

/-! ### spec_l1Floor: function 39 -/
mutual
def spec_l1Floor.j0 : Nat → Bool → Bool → List Int → Bool → List Int → Bool → List Int → Option (Bool × List Int × Bool × List Int)
 | 0, _, _, _, _, _, _, _ => none
 | k + 1, x33, x282000, x282001, x283000, x283001, x296000, x296001 => if x33 = true then ((spec_BigOf.f k (-1)).bind fun bt296 => ((spec_l1Sum.f k x296000 x296001 bt296.1 bt296.2).bind fun bt300 => (spec_l1Floor.j1 k x282000 x282001 x283000 x283001 bt300.1 bt300.2))) else (spec_l1Floor.j1 k x282000 x282001 x283000 x283001 x296000 x296001)
def spec_l1Floor.j1 : Nat → Bool → List Int → Bool → List Int → Bool → List Int → Option (Bool × List Int × Bool × List Int)
 | 0, _, _, _, _, _, _ => none
 | k + 1, x282000, x282001, x283000, x283001, x296000, x296001 => (spec_l1MulMag.f k x296001 x283001).bind fun t304 => ((spec_l1Big.f k (x296000 != x283000) t304).bind fun bt307 => ((spec_l1Minus.f k bt307.1 bt307.2).bind fun bt311 => ((spec_l1Sum.f k x282000 x282001 bt311.1 bt311.2).bind fun bt315 => (some (x296000, x296001, bt315.1, bt315.2)))))
end
def spec_l1Floor.f (k : Nat) (a0_0 : Bool) (l0_1 : List Int) (a1_0 : Bool) (l1_1 : List Int) : Option (Bool × List Int × Bool × List Int) := (spec_l1DivMag.f k l0_1 l1_1).bind fun bt285 => ((spec_l1Big.f k (a0_0 != a1_0) bt285.1).bind fun bt291 => (if (a0_0 != a1_0) = true then (spec_l1Floor.j0 k (decide ((bt285.2.length : Int) > 0)) a0_0 l0_1 a1_0 l1_1 bt291.1 bt291.2) else (spec_l1Floor.j0 k false a0_0 l0_1 a1_0 l1_1 bt291.1 bt291.2)))
def spec_l1Floor.T5 : Bool × List (List Nat × List Nat) := (true, [([], []), ([], []), ([], []), ([2], [2]), ([], []), ([4], [4]), ([3, 5], [3, 5]), ([], []), ([7], [7]), ([], []), ([9], [9]), ([8, 10], [8, 10]), ([6, 11, 11], [6, 11]), ([12, 12], [12]), ([1, 13, 13], [1, 13]), ([0, 14, 0], [0]), ([14, 15, 0, 1, 2, 3, 4, 5, 6, 7, 8, 9, 10, 11, 12, 13, 14, 15], [14])])
def spec_l1Floor.B5 : List Nat := [0, 0, 0, 4, 0, 16, 60, 0, 128, 0, 512, 1920, 4092, 8188, 16382, 32767, 65535]
theorem spec_l1Floor.tab5 : rtab .any (opsOf Try.f39 5) = spec_l1Floor.T5 := by kernel_rfl
theorem spec_l1Floor.bits5 : waitsOk spec_l1Floor.T5.2 spec_l1Floor.B5 = true := by kernel_rfl
set_option maxHeartbeats 8000000 in
set_option maxRecDepth 100000 in
theorem spec_l1Floor.calls (k : Nat) (a0_0 : Bool) (A0_1 : Option Addr) (c0_1 : Nat) (l0_1 : List Int) (a1_0 : Bool) (A1_1 : Option Addr) (c1_1 : Nat) (l1_1 : List Int) (r1 : Bool) (r2 : List Int) (r3 : Bool) (r4 : List Int) (w : World) (hr0_1 : Kd.C (Kd.int .u32) w A0_1 l0_1.length l0_1) (hc0_1 : l0_1.length ≤ c0_1) (hr1_1 : Kd.C (Kd.int .u32) w A1_1 l1_1.length l1_1) (hc1_1 : l1_1.length ≤ c1_1) (h : spec_l1Floor.f k a0_0 l0_1 a1_0 l1_1 = some (r1, r2, r3, r4)) :
  Calls Try.prog 39 #[.agg #[.bool a0_0, .slice A0_1 l0_1.length c0_1], .agg #[.bool a1_0, .slice A1_1 l1_1.length c1_1]] w fun e w' => ∃ v1_ v3_ : Value, e = .returned (.tuple #[.agg #[.bool r1, v1_], .agg #[.bool r3, v3_]]) ∧ Kd.R (Kd.int .u32) 61 w' w.heap.size (fun k_ => some k_ ≠ (v3_ : Value).ownBlock) v1_ r2 ∧ Kd.R (Kd.int .u32) 61 w' w.heap.size (fun k_ => some k_ ≠ (v1_ : Value).ownBlock) v3_ r4 ∧ Below w.heap.size w w' := by
 have hu36 := Try.underlying36
 have HR0_1 := Aside0.mk hr0_1
 have HC0_1 := Aside0.mk hc0_1
 clear hr0_1 hc0_1
 have HR1_1 := Aside0.mk hr1_1
 have HC1_1 := Aside0.mk hc1_1
 clear hr1_1 hc1_1
 have HB := Aside0.mk (Below.refl w.heap.size w)
 have H : ((spec_l1DivMag.f k l0_1 l1_1).bind fun bt285 => ((spec_l1Big.f k (a0_0 != a1_0) bt285.1).bind fun bt291 => (if (a0_0 != a1_0) = true then (spec_l1Floor.j0 k (decide ((bt285.2.length : Int) > 0)) a0_0 l0_1 a1_0 l1_1 bt291.1 bt291.2) else (spec_l1Floor.j0 k false a0_0 l0_1 a1_0 l1_1 bt291.1 bt291.2)))) = some (r1, r2, r3, r4) := h
 clear h
 replace H := Option.bind_eq_some_iff.mp H
 obtain ⟨⟨t285, t286⟩, A30, H⟩ := H
 replace H : ((spec_l1Big.f k (a0_0 != a1_0) t285).bind fun bt291 => (if (a0_0 != a1_0) = true then (spec_l1Floor.j0 k (decide ((t286.length : Int) > 0)) a0_0 l0_1 a1_0 l1_1 bt291.1 bt291.2) else (spec_l1Floor.j0 k false a0_0 l0_1 a1_0 l1_1 bt291.1 bt291.2))) = some (r1, r2, r3, r4) := H
 have A3 := Aside0.mk A30
 clear A30
 replace H := Option.bind_eq_some_iff.mp H
 obtain ⟨⟨t291, t292⟩, A40, H⟩ := H
 replace H : (if (a0_0 != a1_0) = true then (spec_l1Floor.j0 k (decide ((t286.length : Int) > 0)) a0_0 l0_1 a1_0 l1_1 t291 t292) else (spec_l1Floor.j0 k false a0_0 l0_1 a1_0 l1_1 t291 t292)) = some (r1, r2, r3, r4) := H
 have A4 := Aside0.mk A40
 clear A40
 have HC5 := Aside0.mk H
 clear H
 go_enter Try.func39, Try.ntmps39
 go_upto_region 3 with (first | ((with_reducible refine gate_dst (N := 2) rfl ?_); (try (refine gate_guard (by rfl) ?_; dsimp only)); refine box_event ?hg (N := 2) ?hd (cs := #[.bool a0_0, .slice A0_1 l0_1.length c0_1]) (t := 36) ?hr ?_; (case hd => rfl); (case hg => rfl); (case hr => first | (go_simp; done) | (go_simp; rfl)); intro gb281 hg w6 hbox hb; have n0_ := Aside0.mk (below_step (by repeat (first | (with_reducible first | exact HB.out | apply below_alloc | apply pw_below_drewN | apply below_drew1) | exact HB.out)) hb); have n1_ := Aside0.mk (hbox); have n2_ := Aside0.mk ((by rw [hg]; exact (below_size (by repeat (first | (with_reducible first | exact HB.out | apply below_alloc | apply pw_below_drewN | apply below_drew1) | exact HB.out))) : w.heap.size ≤ gb281)); have n3_ := Aside0.mk ((by rw [hg]; exact (below_size (by repeat (first | (with_reducible first | exact HB.out | apply below_alloc | apply pw_below_drewN | apply below_drew1) | exact HB.out))) : w.heap.size ≤ gb281)); clear HB; have HB := n0_; have BK281 := n1_; have GW281 := n2_; have GE281 := n3_; clear n0_ n1_ n2_ n3_; clear hb hbox hg) | ((with_reducible refine gate_dst (N := 3) rfl ?_); (try (refine gate_guard (by rfl) ?_; dsimp only)); refine box_event ?hg (N := 3) ?hd (cs := #[.bool a1_0, .slice A1_1 l1_1.length c1_1]) (t := 36) ?hr ?_; (case hd => rfl); (case hg => rfl); (case hr => first | (go_simp; done) | (go_simp; rfl)); intro gb282 hg w7 hbox hb; have n0_ := Aside0.mk (blk_below (g := gb281) (o := .cells #[.bool a0_0, .slice A0_1 l0_1.length c0_1] 36 (0, 0)) (by (with_reducible repeat (first | refine blk_drewN ?_ _ | refine blk_drew ?_ | refine blk_alloc ?_ _)); exact BK281.out) hb); have n1_ := Aside0.mk (below_step (by repeat (first | (with_reducible first | exact HB.out | apply below_alloc | apply pw_below_drewN | apply below_drew1 | refine below_set ?_ GE281.out) | exact HB.out)) hb); have n2_ := Aside0.mk (hbox); have n3_ := Aside0.mk ((by rw [hg]; exact (below_size (by repeat (first | (with_reducible first | exact HB.out | apply below_alloc | apply pw_below_drewN | apply below_drew1 | refine below_set ?_ GE281.out) | exact HB.out))) : w.heap.size ≤ gb282)); have n4_ := Aside0.mk ((by rw [hg]; exact (below_size (by repeat (first | (with_reducible first | exact HB.out | apply below_alloc | apply pw_below_drewN | apply below_drew1 | refine below_set ?_ GE281.out) | exact HB.out))) : w.heap.size ≤ gb282)); have n5_ := Aside0.mk ((by rw [hg]; exact Nat.ne_of_lt (blk_lt (g := gb281) (o := .cells #[.bool a0_0, .slice A0_1 l0_1.length c0_1] 36 (0, 0)) (by (with_reducible repeat (first | refine blk_drewN ?_ _ | refine blk_drew ?_ | refine blk_alloc ?_ _)); exact BK281.out)) : gb281 ≠ gb282)); have n6_ := Aside0.mk ((by rw [hg]; exact Nat.ne_of_gt (blk_lt (g := gb281) (o := .cells #[.bool a0_0, .slice A0_1 l0_1.length c0_1] 36 (0, 0)) (by (with_reducible repeat (first | refine blk_drewN ?_ _ | refine blk_drew ?_ | refine blk_alloc ?_ _)); exact BK281.out)) : gb282 ≠ gb281)); clear BK281; clear HB; have BK281 := n0_; have HB := n1_; have BK282 := n2_; have GW282 := n3_; have GE282 := n4_; have NB281_282 := n5_; have NB282_281 := n6_; clear n0_ n1_ n2_ n3_ n4_ n5_ n6_; clear hb hbox hg) | ((with_reducible refine gate_dst (N := 4) rfl ?_); (try (refine gate_guard (by rfl) ?_; dsimp only)); refine box_event ?hg (N := 4) ?hd (cs := #[.bool false, .slice none 0 0]) (t := 36) ?hr ?_; (case hd => rfl); (case hg => rfl); (case hr => first | (go_simp; done) | (go_simp; rfl)); intro gb283 hg w8 hbox hb; have n0_ := Aside0.mk (blk_below (g := gb281) (o := .cells #[.bool a0_0, .slice A0_1 l0_1.length c0_1] 36 (0, 0)) (by (with_reducible repeat (first | refine blk_drewN ?_ _ | refine blk_drew ?_ | refine blk_alloc ?_ _)); exact BK281.out) hb); have n1_ := Aside0.mk (blk_below (g := gb282) (o := .cells #[.bool a1_0, .slice A1_1 l1_1.length c1_1] 36 (0, 0)) (by (with_reducible repeat (first | refine blk_drewN ?_ _ | refine blk_drew ?_ | refine blk_alloc ?_ _)); exact BK282.out) hb); have n2_ := Aside0.mk (below_step (by repeat (first | (with_reducible first | exact HB.out | apply below_alloc | apply pw_below_drewN | apply below_drew1 | refine below_set ?_ GE281.out | refine below_set ?_ GE282.out) | exact HB.out)) hb); have n3_ := Aside0.mk (hbox); have n4_ := Aside0.mk ((by rw [hg]; exact (below_size (by repeat (first | (with_reducible first | exact HB.out | apply below_alloc | apply pw_below_drewN | apply below_drew1 | refine below_set ?_ GE281.out | refine below_set ?_ GE282.out) | exact HB.out))) : w.heap.size ≤ gb283)); have n5_ := Aside0.mk ((by rw [hg]; exact (below_size (by repeat (first | (with_reducible first | exact HB.out | apply below_alloc | apply pw_below_drewN | apply below_drew1 | refine below_set ?_ GE281.out | refine below_set ?_ GE282.out) | exact HB.out))) : w.heap.size ≤ gb283)); have n6_ := Aside0.mk ((by rw [hg]; exact Nat.ne_of_lt (blk_lt (g := gb281) (o := .cells #[.bool a0_0, .slice A0_1 l0_1.length c0_1] 36 (0, 0)) (by (with_reducible repeat (first | refine blk_drewN ?_ _ | refine blk_drew ?_ | refine blk_alloc ?_ _)); exact BK281.out)) : gb281 ≠ gb283)); have n7_ := Aside0.mk ((by rw [hg]; exact Nat.ne_of_gt (blk_lt (g := gb281) (o := .cells #[.bool a0_0, .slice A0_1 l0_1.length c0_1] 36 (0, 0)) (by (with_reducible repeat (first | refine blk_drewN ?_ _ | refine blk_drew ?_ | refine blk_alloc ?_ _)); exact BK281.out)) : gb283 ≠ gb281)); have n8_ := Aside0.mk ((by rw [hg]; exact Nat.ne_of_lt (blk_lt (g := gb282) (o := .cells #[.bool a1_0, .slice A1_1 l1_1.length c1_1] 36 (0, 0)) (by (with_reducible repeat (first | refine blk_drewN ?_ _ | refine blk_drew ?_ | refine blk_alloc ?_ _)); exact BK282.out)) : gb282 ≠ gb283)); have n9_ := Aside0.mk ((by rw [hg]; exact Nat.ne_of_gt (blk_lt (g := gb282) (o := .cells #[.bool a1_0, .slice A1_1 l1_1.length c1_1] 36 (0, 0)) (by (with_reducible repeat (first | refine blk_drewN ?_ _ | refine blk_drew ?_ | refine blk_alloc ?_ _)); exact BK282.out)) : gb283 ≠ gb282)); clear BK281; clear BK282; clear HB; have BK281 := n0_; have BK282 := n1_; have HB := n2_; have BK283 := n3_; have GW283 := n4_; have GE283 := n5_; have NB281_283 := n6_; have NB283_281 := n7_; have NB282_283 := n8_; have NB283_282 := n9_; clear n0_ n1_ n2_ n3_ n4_ n5_ n6_ n7_ n8_ n9_; clear hb hbox hg) | ((with_reducible refine gate_dst (N := 5) rfl ?_); (try (refine gate_guard (by rfl) ?_; dsimp only)); refine box_event ?hg (N := 5) ?hd (cs := #[.bool false, .slice none 0 0]) (t := 36) ?hr ?_; (case hd => rfl); (case hg => rfl); (case hr => first | (go_simp; done) | (go_simp; rfl)); intro gb284 hg w9 hbox hb; have n0_ := Aside0.mk (blk_below (g := gb281) (o := .cells #[.bool a0_0, .slice A0_1 l0_1.length c0_1] 36 (0, 0)) (by (with_reducible repeat (first | refine blk_drewN ?_ _ | refine blk_drew ?_ | refine blk_alloc ?_ _)); exact BK281.out) hb); have n1_ := Aside0.mk (blk_below (g := gb282) (o := .cells #[.bool a1_0, .slice A1_1 l1_1.length c1_1] 36 (0, 0)) (by (with_reducible repeat (first | refine blk_drewN ?_ _ | refine blk_drew ?_ | refine blk_alloc ?_ _)); exact BK282.out) hb); have n2_ := Aside0.mk (blk_below (g := gb283) (o := .cells #[.bool false, .slice none 0 0] 36 (0, 0)) (by (with_reducible repeat (first | refine blk_drewN ?_ _ | refine blk_drew ?_ | refine blk_alloc ?_ _)); exact BK283.out) hb); have n3_ := Aside0.mk (below_step (by repeat (first | (with_reducible first | exact HB.out | apply below_alloc | apply pw_below_drewN | apply below_drew1 | refine below_set ?_ GE281.out | refine below_set ?_ GE282.out | refine below_set ?_ GE283.out) | exact HB.out)) hb); have n4_ := Aside0.mk (hbox); have n5_ := Aside0.mk ((by rw [hg]; exact (below_size (by repeat (first | (with_reducible first | exact HB.out | apply below_alloc | apply pw_below_drewN | apply below_drew1 | refine below_set ?_ GE281.out | refine below_set ?_ GE282.out | refine below_set ?_ GE283.out) | exact HB.out))) : w.heap.size ≤ gb284)); have n6_ := Aside0.mk ((by rw [hg]; exact (below_size (by repeat (first | (with_reducible first | exact HB.out | apply below_alloc | apply pw_below_drewN | apply below_drew1 | refine below_set ?_ GE281.out | refine below_set ?_ GE282.out | refine below_set ?_ GE283.out) | exact HB.out))) : w.heap.size ≤ gb284)); have n7_ := Aside0.mk ((by rw [hg]; exact Nat.ne_of_lt (blk_lt (g := gb281) (o := .cells #[.bool a0_0, .slice A0_1 l0_1.length c0_1] 36 (0, 0)) (by (with_reducible repeat (first | refine blk_drewN ?_ _ | refine blk_drew ?_ | refine blk_alloc ?_ _)); exact BK281.out)) : gb281 ≠ gb284)); have n8_ := Aside0.mk ((by rw [hg]; exact Nat.ne_of_gt (blk_lt (g := gb281) (o := .cells #[.bool a0_0, .slice A0_1 l0_1.length c0_1] 36 (0, 0)) (by (with_reducible repeat (first | refine blk_drewN ?_ _ | refine blk_drew ?_ | refine blk_alloc ?_ _)); exact BK281.out)) : gb284 ≠ gb281)); have n9_ := Aside0.mk ((by rw [hg]; exact Nat.ne_of_lt (blk_lt (g := gb282) (o := .cells #[.bool a1_0, .slice A1_1 l1_1.length c1_1] 36 (0, 0)) (by (with_reducible repeat (first | refine blk_drewN ?_ _ | refine blk_drew ?_ | refine blk_alloc ?_ _)); exact BK282.out)) : gb282 ≠ gb284)); have n10_ := Aside0.mk ((by rw [hg]; exact Nat.ne_of_gt (blk_lt (g := gb282) (o := .cells #[.bool a1_0, .slice A1_1 l1_1.length c1_1] 36 (0, 0)) (by (with_reducible repeat (first | refine blk_drewN ?_ _ | refine blk_drew ?_ | refine blk_alloc ?_ _)); exact BK282.out)) : gb284 ≠ gb282)); have n11_ := Aside0.mk ((by rw [hg]; exact Nat.ne_of_lt (blk_lt (g := gb283) (o := .cells #[.bool false, .slice none 0 0] 36 (0, 0)) (by (with_reducible repeat (first | refine blk_drewN ?_ _ | refine blk_drew ?_ | refine blk_alloc ?_ _)); exact BK283.out)) : gb283 ≠ gb284)); have n12_ := Aside0.mk ((by rw [hg]; exact Nat.ne_of_gt (blk_lt (g := gb283) (o := .cells #[.bool false, .slice none 0 0] 36 (0, 0)) (by (with_reducible repeat (first | refine blk_drewN ?_ _ | refine blk_drew ?_ | refine blk_alloc ?_ _)); exact BK283.out)) : gb284 ≠ gb283)); clear BK281; clear BK282; clear BK283; clear HB; have BK281 := n0_; have BK282 := n1_; have BK283 := n2_; have HB := n3_; have BK284 := n4_; have GW284 := n5_; have GE284 := n6_; have NB281_284 := n7_; have NB284_281 := n8_; have NB282_284 := n9_; have NB284_282 := n10_; have NB283_284 := n11_; have NB284_283 := n12_; clear n0_ n1_ n2_ n3_ n4_ n5_ n6_ n7_ n8_ n9_ n10_ n11_ n12_; clear hb hbox hg; have hnb10 := NB281_282.out; have hnc10 := NB282_281.out; have hnb11 := NB281_283.out; have hnc11 := NB283_281.out; have hnb12 := NB281_284.out; have hnc12 := NB284_281.out; have hcz13_0 : w9.cell? ⟨gb281, 0, none⟩ = some (.bool a0_0) := (blk_cell BK281.out 0).trans rfl; have hcz13_1 : w9.cell? ⟨gb281, 1, none⟩ = some (.slice A0_1 l0_1.length c0_1) := (blk_cell BK281.out 1).trans rfl; have hfz13_0 := blk_frozen BK281.out 0; have hfz13_1 := blk_frozen BK281.out 1; have hnb14 := NB282_283.out; have hnc14 := NB283_282.out; have hnb15 := NB282_284.out; have hnc15 := NB284_282.out; have hcz16_0 : w9.cell? ⟨gb282, 0, none⟩ = some (.bool a1_0) := (blk_cell BK282.out 0).trans rfl; have hcz16_1 : w9.cell? ⟨gb282, 1, none⟩ = some (.slice A1_1 l1_1.length c1_1) := (blk_cell BK282.out 1).trans rfl; have hfz16_0 := blk_frozen BK282.out 0; have hfz16_1 := blk_frozen BK282.out 1) | ((with_reducible refine gate_callee (f := 56) rfl ?_); refine goesL_ (some 14) rfl rfl Try.func56 (by kernel_rfl) rfl #[.slice A0_1 l0_1.length c0_1, .slice A1_1 l1_1.length c1_1] rfl (by (try simp only [List.map_toArray, List.map_cons, List.map_nil]); first | done | rfl | (simp only [List.length_drop, List.length_take]; rfl)) ?_; (with_reducible refine (spec_l1DivMag.calls k _ _ l0_1 _ _ l1_1 t285 t286 _ ?side1 ?side2 ?side3 ?side4 A3.out).mono ?_); (case side1 => repeat (first | exact (Kd.C_below HR0_1.out HB.out) | (with_reducible refine Kd.C_alloc ?_ _) | (with_reducible refine Kd.C_drewN ?_ _) | (with_reducible refine Kd.C_drew ?_))); (case side2 => exact HC0_1.out); (case side3 => repeat (first | exact (Kd.C_below HR1_1.out HB.out) | (with_reducible refine Kd.C_alloc ?_ _) | (with_reducible refine Kd.C_drewN ?_ _) | (with_reducible refine Kd.C_drew ?_))); (case side4 => exact HC1_1.out); rintro e w17 ⟨v287, v289, rfl, ho0, ho1, hb⟩; refine ⟨_, rfl, ?_⟩; have n0_ := Aside0.mk (Kd.R_lower ho0 (below_size (by repeat (first | (with_reducible first | exact HB.out | apply below_alloc | apply pw_below_drewN | apply below_drew1 | refine below_set ?_ GE281.out | refine below_set ?_ GE282.out | refine below_set ?_ GE283.out | refine below_set ?_ GE284.out) | exact HB.out)))); have n1_ := Aside0.mk (Kd.R_lower ho1 (below_size (by repeat (first | (with_reducible first | exact HB.out | apply below_alloc | apply pw_below_drewN | apply below_drew1 | refine below_set ?_ GE281.out | refine below_set ?_ GE282.out | refine below_set ?_ GE283.out | refine below_set ?_ GE284.out) | exact HB.out)))); have n2_ := Aside0.mk (blk_below (g := gb281) (o := .cells #[.bool a0_0, .slice A0_1 l0_1.length c0_1] 36 (0, 0)) (by (with_reducible repeat (first | refine blk_drewN ?_ _ | refine blk_drew ?_ | refine blk_alloc ?_ _)); exact BK281.out) hb); have n3_ := Aside0.mk (blk_below (g := gb282) (o := .cells #[.bool a1_0, .slice A1_1 l1_1.length c1_1] 36 (0, 0)) (by (with_reducible repeat (first | refine blk_drewN ?_ _ | refine blk_drew ?_ | refine blk_alloc ?_ _)); exact BK282.out) hb); have n4_ := Aside0.mk (blk_below (g := gb283) (o := .cells #[.bool false, .slice none 0 0] 36 (0, 0)) (by (with_reducible repeat (first | refine blk_drewN ?_ _ | refine blk_drew ?_ | refine blk_alloc ?_ _)); exact BK283.out) hb); have n5_ := Aside0.mk (blk_below (g := gb284) (o := .cells #[.bool false, .slice none 0 0] 36 (0, 0)) (by (with_reducible repeat (first | refine blk_drewN ?_ _ | refine blk_drew ?_ | refine blk_alloc ?_ _)); exact BK284.out) hb); have n6_ := Aside0.mk (below_step (by repeat (first | (with_reducible first | exact HB.out | apply below_alloc | apply pw_below_drewN | apply below_drew1 | refine below_set ?_ GE281.out | refine below_set ?_ GE282.out | refine below_set ?_ GE283.out | refine below_set ?_ GE284.out) | exact HB.out)) hb); clear BK281; clear BK282; clear BK283; clear BK284; clear HB; have HO288 := n0_; have HO290 := n1_; have BK281 := n2_; have BK282 := n3_; have BK283 := n4_; have BK284 := n5_; have HB := n6_; clear n0_ n1_ n2_ n3_ n4_ n5_ n6_; (try clear hb); (try clear hb2); (try clear hk); (try clear hi); (try clear ho0); (try clear ho1); have hcz18_0 : w17.cell? ⟨gb281, 0, none⟩ = some (.bool a0_0) := (blk_cell BK281.out 0).trans rfl; have hcz18_1 : w17.cell? ⟨gb281, 1, none⟩ = some (.slice A0_1 l0_1.length c0_1) := (blk_cell BK281.out 1).trans rfl; have hfz18_0 := blk_frozen BK281.out 0; have hfz18_1 := blk_frozen BK281.out 1; have hcz19_0 : w17.cell? ⟨gb282, 0, none⟩ = some (.bool a1_0) := (blk_cell BK282.out 0).trans rfl; have hcz19_1 : w17.cell? ⟨gb282, 1, none⟩ = some (.slice A1_1 l1_1.length c1_1) := (blk_cell BK282.out 1).trans rfl; have hfz19_0 := blk_frozen BK282.out 0; have hfz19_1 := blk_frozen BK282.out 1; obtain ⟨Ao20, co20, eo20⟩ := Kd.R_slice HO288.out; subst eo20) | ((with_reducible refine gate_callee (f := 32) rfl ?_); refine goesL_ (some 23) rfl rfl Try.func32 (by kernel_rfl) rfl #[.bool (a0_0 != a1_0), .slice Ao20 t285.length co20] rfl (by (try simp only [List.map_toArray, List.map_cons, List.map_nil]); first | done | rfl | (simp only [List.length_drop, List.length_take]; rfl)) ?_; (with_reducible refine (spec_l1Big.calls k (a0_0 != a1_0) _ _ t285 t291 t292 _ ?side1 ?side2 A4.out).mono ?_); (case side1 => repeat (first | exact (Kd.R_reads' HO288.out).2.2 | (with_reducible refine Kd.C_alloc ?_ _) | (with_reducible refine Kd.C_drewN ?_ _) | (with_reducible refine Kd.C_drew ?_))); (case side2 => exact (Kd.R_reads' HO288.out).2.1); rintro e w21 ⟨v293, rfl, ho0, hb⟩; refine ⟨_, rfl, ?_⟩; have n0_ := Aside0.mk (Kd.R_elder' (by (with_reducible repeat (first | apply Kd.R_alloc | apply Kd.R_drewN | apply Kd.R_drew)); exact HO288.out) (Kd.R_base ho0) hb); have n1_ := Aside0.mk (Kd.R_elder' (by (with_reducible repeat (first | apply Kd.R_alloc | apply Kd.R_drewN | apply Kd.R_drew)); exact HO290.out) (Kd.R_base ho0) hb); have n2_ := Aside0.mk (Kd.R_lower (Kd.R_new' (Kd.R_new' ho0 (Kd.R_lt (by (with_reducible repeat (first | apply Kd.R_alloc | apply Kd.R_drewN | apply Kd.R_drew)); exact HO288.out))) (Kd.R_lt (by (with_reducible repeat (first | apply Kd.R_alloc | apply Kd.R_drewN | apply Kd.R_drew)); exact HO290.out))) (below_size (by repeat (first | (with_reducible first | exact HB.out | apply below_alloc | apply pw_below_drewN | apply below_drew1 | refine below_set ?_ GE281.out | refine below_set ?_ GE282.out | refine below_set ?_ GE283.out | refine below_set ?_ GE284.out) | exact HB.out)))); have n3_ := Aside0.mk (blk_below (g := gb281) (o := .cells #[.bool a0_0, .slice A0_1 l0_1.length c0_1] 36 (0, 0)) (by (with_reducible repeat (first | refine blk_drewN ?_ _ | refine blk_drew ?_ | refine blk_alloc ?_ _)); exact BK281.out) hb); have n4_ := Aside0.mk (blk_below (g := gb282) (o := .cells #[.bool a1_0, .slice A1_1 l1_1.length c1_1] 36 (0, 0)) (by (with_reducible repeat (first | refine blk_drewN ?_ _ | refine blk_drew ?_ | refine blk_alloc ?_ _)); exact BK282.out) hb); have n5_ := Aside0.mk (blk_below (g := gb283) (o := .cells #[.bool false, .slice none 0 0] 36 (0, 0)) (by (with_reducible repeat (first | refine blk_drewN ?_ _ | refine blk_drew ?_ | refine blk_alloc ?_ _)); exact BK283.out) hb); have n6_ := Aside0.mk (blk_below (g := gb284) (o := .cells #[.bool false, .slice none 0 0] 36 (0, 0)) (by (with_reducible repeat (first | refine blk_drewN ?_ _ | refine blk_drew ?_ | refine blk_alloc ?_ _)); exact BK284.out) hb); have n7_ := Aside0.mk (below_step (by repeat (first | (with_reducible first | exact HB.out | apply below_alloc | apply pw_below_drewN | apply below_drew1 | refine below_set ?_ GE281.out | refine below_set ?_ GE282.out | refine below_set ?_ GE283.out | refine below_set ?_ GE284.out) | exact HB.out)) hb); clear HO288; clear HO290; clear BK281; clear BK282; clear BK283; clear BK284; clear HB; have HO288 := n0_; have HO290 := n1_; have HO294 := n2_; have BK281 := n3_; have BK282 := n4_; have BK283 := n5_; have BK284 := n6_; have HB := n7_; clear n0_ n1_ n2_ n3_ n4_ n5_ n6_ n7_; (try clear hb); (try clear hb2); (try clear hk); (try clear hi); (try clear ho0)) | ((with_reducible refine gate_dst (N := 8) rfl ?_); (try (refine gate_guard (by rfl) ?_; dsimp only)); refine box_event ?hg (N := 8) ?hd (cs := #[.bool false, .slice none 0 0]) (t := 36) ?hr ?_; (case hd => rfl); (case hg => rfl); (case hr => first | (go_simp; done) | (go_simp; rfl)); intro gb295 hg w22 hbox hb; have n0_ := Aside0.mk (Kd.R_below (by (with_reducible repeat (first | apply Kd.R_alloc | apply Kd.R_drewN | apply Kd.R_drew)); exact HO288.out) hb); have n1_ := Aside0.mk (Kd.R_below (by (with_reducible repeat (first | apply Kd.R_alloc | apply Kd.R_drewN | apply Kd.R_drew)); exact HO290.out) hb); have n2_ := Aside0.mk (Kd.R_below (by (with_reducible repeat (first | apply Kd.R_alloc | apply Kd.R_drewN | apply Kd.R_drew)); exact HO294.out) hb); have n3_ := Aside0.mk (blk_below (g := gb281) (o := .cells #[.bool a0_0, .slice A0_1 l0_1.length c0_1] 36 (0, 0)) (by (with_reducible repeat (first | refine blk_drewN ?_ _ | refine blk_drew ?_ | refine blk_alloc ?_ _)); exact BK281.out) hb); have n4_ := Aside0.mk (blk_below (g := gb282) (o := .cells #[.bool a1_0, .slice A1_1 l1_1.length c1_1] 36 (0, 0)) (by (with_reducible repeat (first | refine blk_drewN ?_ _ | refine blk_drew ?_ | refine blk_alloc ?_ _)); exact BK282.out) hb); have n5_ := Aside0.mk (blk_below (g := gb283) (o := .cells #[.bool false, .slice none 0 0] 36 (0, 0)) (by (with_reducible repeat (first | refine blk_drewN ?_ _ | refine blk_drew ?_ | refine blk_alloc ?_ _)); exact BK283.out) hb); have n6_ := Aside0.mk (blk_below (g := gb284) (o := .cells #[.bool false, .slice none 0 0] 36 (0, 0)) (by (with_reducible repeat (first | refine blk_drewN ?_ _ | refine blk_drew ?_ | refine blk_alloc ?_ _)); exact BK284.out) hb); have n7_ := Aside0.mk (below_step (by repeat (first | (with_reducible first | exact HB.out | apply below_alloc | apply pw_below_drewN | apply below_drew1 | refine below_set ?_ GE281.out | refine below_set ?_ GE282.out | refine below_set ?_ GE283.out | refine below_set ?_ GE284.out) | exact HB.out)) hb); have n8_ := Aside0.mk (hbox); have n9_ := Aside0.mk ((by rw [hg]; exact (below_size (by repeat (first | (with_reducible first | exact HB.out | apply below_alloc | apply pw_below_drewN | apply below_drew1 | refine below_set ?_ GE281.out | refine below_set ?_ GE282.out | refine below_set ?_ GE283.out | refine below_set ?_ GE284.out) | exact HB.out))) : w.heap.size ≤ gb295)); have n10_ := Aside0.mk ((by rw [hg]; exact (below_size (by repeat (first | (with_reducible first | exact HB.out | apply below_alloc | apply pw_below_drewN | apply below_drew1 | refine below_set ?_ GE281.out | refine below_set ?_ GE282.out | refine below_set ?_ GE283.out | refine below_set ?_ GE284.out) | exact HB.out))) : w.heap.size ≤ gb295)); have n11_ := Aside0.mk ((by rw [hg]; exact Nat.ne_of_lt (blk_lt (g := gb281) (o := .cells #[.bool a0_0, .slice A0_1 l0_1.length c0_1] 36 (0, 0)) (by (with_reducible repeat (first | refine blk_drewN ?_ _ | refine blk_drew ?_ | refine blk_alloc ?_ _)); exact BK281.out)) : gb281 ≠ gb295)); have n12_ := Aside0.mk ((by rw [hg]; exact Nat.ne_of_gt (blk_lt (g := gb281) (o := .cells #[.bool a0_0, .slice A0_1 l0_1.length c0_1] 36 (0, 0)) (by (with_reducible repeat (first | refine blk_drewN ?_ _ | refine blk_drew ?_ | refine blk_alloc ?_ _)); exact BK281.out)) : gb295 ≠ gb281)); have n13_ := Aside0.mk ((by rw [hg]; exact Nat.ne_of_lt (blk_lt (g := gb282) (o := .cells #[.bool a1_0, .slice A1_1 l1_1.length c1_1] 36 (0, 0)) (by (with_reducible repeat (first | refine blk_drewN ?_ _ | refine blk_drew ?_ | refine blk_alloc ?_ _)); exact BK282.out)) : gb282 ≠ gb295)); have n14_ := Aside0.mk ((by rw [hg]; exact Nat.ne_of_gt (blk_lt (g := gb282) (o := .cells #[.bool a1_0, .slice A1_1 l1_1.length c1_1] 36 (0, 0)) (by (with_reducible repeat (first | refine blk_drewN ?_ _ | refine blk_drew ?_ | refine blk_alloc ?_ _)); exact BK282.out)) : gb295 ≠ gb282)); have n15_ := Aside0.mk ((by rw [hg]; exact Nat.ne_of_lt (blk_lt (g := gb283) (o := .cells #[.bool false, .slice none 0 0] 36 (0, 0)) (by (with_reducible repeat (first | refine blk_drewN ?_ _ | refine blk_drew ?_ | refine blk_alloc ?_ _)); exact BK283.out)) : gb283 ≠ gb295)); have n16_ := Aside0.mk ((by rw [hg]; exact Nat.ne_of_gt (blk_lt (g := gb283) (o := .cells #[.bool false, .slice none 0 0] 36 (0, 0)) (by (with_reducible repeat (first | refine blk_drewN ?_ _ | refine blk_drew ?_ | refine blk_alloc ?_ _)); exact BK283.out)) : gb295 ≠ gb283)); have n17_ := Aside0.mk ((by rw [hg]; exact Nat.ne_of_lt (blk_lt (g := gb284) (o := .cells #[.bool false, .slice none 0 0] 36 (0, 0)) (by (with_reducible repeat (first | refine blk_drewN ?_ _ | refine blk_drew ?_ | refine blk_alloc ?_ _)); exact BK284.out)) : gb284 ≠ gb295)); have n18_ := Aside0.mk ((by rw [hg]; exact Nat.ne_of_gt (blk_lt (g := gb284) (o := .cells #[.bool false, .slice none 0 0] 36 (0, 0)) (by (with_reducible repeat (first | refine blk_drewN ?_ _ | refine blk_drew ?_ | refine blk_alloc ?_ _)); exact BK284.out)) : gb295 ≠ gb284)); clear HO288; clear HO290; clear HO294; clear BK281; clear BK282; clear BK283; clear BK284; clear HB; have HO288 := n0_; have HO290 := n1_; have HO294 := n2_; have BK281 := n3_; have BK282 := n4_; have BK283 := n5_; have BK284 := n6_; have HB := n7_; have BK295 := n8_; have GW295 := n9_; have GE295 := n10_; have NB281_295 := n11_; have NB295_281 := n12_; have NB282_295 := n13_; have NB295_282 := n14_; have NB283_295 := n15_; have NB295_283 := n16_; have NB284_295 := n17_; have NB295_284 := n18_; clear n0_ n1_ n2_ n3_ n4_ n5_ n6_ n7_ n8_ n9_ n10_ n11_ n12_ n13_ n14_ n15_ n16_ n17_ n18_; clear hb hbox hg; have hnb23 := NB295_281.out; have hnc23 := NB281_295.out; have hnb24 := NB295_282.out; have hnc24 := NB282_295.out; have hnb25 := NB295_283.out; have hnc25 := NB283_295.out; have hnb26 := NB295_284.out; have hnc26 := NB284_295.out; have hcz27_0 : w22.cell? ⟨gb295, 0, none⟩ = some (.bool false) := (blk_cell BK295.out 0).trans rfl; have hcz27_1 : w22.cell? ⟨gb295, 1, none⟩ = some (.slice none 0 0) := (blk_cell BK295.out 1).trans rfl; have hfz27_0 := blk_frozen BK295.out 0; have hfz27_1 := blk_frozen BK295.out 1; obtain ⟨Ao28, co28, eo28⟩ := Kd.R_slice HO294.out; subst eo28))
 (try simp only [Act.put, List.setIfInBounds_toArray, List.set_cons_zero, List.set_cons_succ])
 go_cut [33] (fun v33 wc => ∃ (kq : Nat) (x33_4 : Bool), v33 = .bool x33_4 ∧ Aside0 (spec_l1Floor.j0 kq x33_4 a0_0 l0_1 a1_0 l1_1 t291 t292 = some (r1, r2, r3, r4)) ∧ Aside0 (kq ≤ k) ∧ Aside0 (Kd.R (Kd.int .u32) 61 wc w.heap.size (fun _ => True) (.slice Ao28 t292.length co28) t292) ∧ Aside0 (wc.heap[gb281]? = some (.cells #[.bool a0_0, (.slice A0_1 l0_1.length c0_1)] 36 (0, 0))) ∧ Aside0 (wc.heap[gb282]? = some (.cells #[.bool a1_0, (.slice A1_1 l1_1.length c1_1)] 36 (0, 0))) ∧ Aside0 (wc.heap[gb283]? = some (.cells #[.bool false, (.slice none 0 0)] 36 (0, 0))) ∧ Aside0 (wc.heap[gb284]? = some (.cells #[.bool false, (.slice none 0 0)] 36 (0, 0))) ∧ Aside0 (wc.heap[gb295]? = some (.cells #[.bool t291, (.slice Ao28 t292.length co28)] 36 (0, 0))) ∧ Aside0 (Below w.heap.size w wc))
 case first =>
  have H := HC5.out
  clear HC5
  by_cases c29 : (a0_0 != a1_0) = true
  ·rw [if_pos c29] at H
   have c29b0 : (a0_0 != a1_0) = true := c29
   (try (have c29b1 : decide (a0_0 = a1_0) = false := by simpa using c29))
   (try (have c29b2 : (a0_0 == a1_0) = false := by simpa using c29))
   (try (have c29b3 : ¬ (a0_0 = a1_0) := by simpa using c29))
   clear c29
   (first | rw [c29b0] | (simp only [i64_w, i32_w]; rw [c29b0]) | skip)
   have H' := Aside0.mk H
   clear H
   have hnb30 := NB281_282.out
   have hnc30 := NB282_281.out
   have hnb31 := NB281_283.out
   have hnc31 := NB283_281.out
   have hnb32 := NB281_284.out
   have hnc32 := NB284_281.out
   have hnb33 := NB281_295.out
   have hnc33 := NB295_281.out
   have hcz34_0 : w22.cell? ⟨gb281, 0, none⟩ = some (.bool a0_0) := (blk_cell BK281.out 0).trans rfl
   have hcz34_1 : w22.cell? ⟨gb281, 1, none⟩ = some (.slice A0_1 l0_1.length c0_1) := (blk_cell BK281.out 1).trans rfl
   have hfz34_0 := blk_frozen BK281.out 0
   have hfz34_1 := blk_frozen BK281.out 1
   have hnb35 := NB282_283.out
   have hnc35 := NB283_282.out
   have hnb36 := NB282_284.out
   have hnc36 := NB284_282.out
   have hnb37 := NB282_295.out
   have hnc37 := NB295_282.out
   have hcz38_0 : w22.cell? ⟨gb282, 0, none⟩ = some (.bool a1_0) := (blk_cell BK282.out 0).trans rfl
   have hcz38_1 : w22.cell? ⟨gb282, 1, none⟩ = some (.slice A1_1 l1_1.length c1_1) := (blk_cell BK282.out 1).trans rfl
   have hfz38_0 := blk_frozen BK282.out 0
   have hfz38_1 := blk_frozen BK282.out 1
   obtain ⟨Ao39, co39, eo39⟩ := Kd.R_slice HO290.out
   subst eo39
   go_wp2
   go_meet
   case rel => exact ⟨_, (decide ((t286.length : Int) > 0)), (by first | rfl | (simp; done) | (simp [*]; done)), H', ⟨by first | omega | exact Nat.le_refl _⟩, ⟨by (with_reducible repeat (first | apply Kd.R_alloc | apply Kd.R_drewN | apply Kd.R_drew)); exact Kd.R_mono (Kd.R_far (p := ⟨gb295, 1, none⟩) (Kd.R_far (p := ⟨gb295, 0, none⟩) (Kd.R_types HO294.out BK295.out (by decide)) (fun _ hk => hk.2) (.bool t291)) (fun _ hk => hk.2) (.slice Ao28 t292.length co28)) (fun _ hk => trivial)⟩, ⟨by (with_reducible repeat (first | refine blk_drewN ?_ _ | refine blk_drew ?_ | refine blk_alloc ?_ _)); refine blk_far ?_ NB281_295.out _; (with_reducible repeat (first | refine blk_drewN ?_ _ | refine blk_drew ?_ | refine blk_alloc ?_ _)); refine blk_far ?_ NB281_295.out _; (with_reducible repeat (first | refine blk_drewN ?_ _ | refine blk_drew ?_ | refine blk_alloc ?_ _)); exact BK281.out⟩, ⟨by (with_reducible repeat (first | refine blk_drewN ?_ _ | refine blk_drew ?_ | refine blk_alloc ?_ _)); refine blk_far ?_ NB282_295.out _; (with_reducible repeat (first | refine blk_drewN ?_ _ | refine blk_drew ?_ | refine blk_alloc ?_ _)); refine blk_far ?_ NB282_295.out _; (with_reducible repeat (first | refine blk_drewN ?_ _ | refine blk_drew ?_ | refine blk_alloc ?_ _)); exact BK282.out⟩, ⟨by (with_reducible repeat (first | refine blk_drewN ?_ _ | refine blk_drew ?_ | refine blk_alloc ?_ _)); refine blk_far ?_ NB283_295.out _; (with_reducible repeat (first | refine blk_drewN ?_ _ | refine blk_drew ?_ | refine blk_alloc ?_ _)); refine blk_far ?_ NB283_295.out _; (with_reducible repeat (first | refine blk_drewN ?_ _ | refine blk_drew ?_ | refine blk_alloc ?_ _)); exact BK283.out⟩, ⟨by (with_reducible repeat (first | refine blk_drewN ?_ _ | refine blk_drew ?_ | refine blk_alloc ?_ _)); refine blk_far ?_ NB284_295.out _; (with_reducible repeat (first | refine blk_drewN ?_ _ | refine blk_drew ?_ | refine blk_alloc ?_ _)); refine blk_far ?_ NB284_295.out _; (with_reducible repeat (first | refine blk_drewN ?_ _ | refine blk_drew ?_ | refine blk_alloc ?_ _)); exact BK284.out⟩, ⟨by (with_reducible repeat (first | refine blk_drewN ?_ _ | refine blk_drew ?_ | refine blk_alloc ?_ _)); refine blk_put (cs := #[.bool t291, .slice none 0 0]) ?_ 1 _ rfl; (with_reducible repeat (first | refine blk_drewN ?_ _ | refine blk_drew ?_ | refine blk_alloc ?_ _)); refine blk_put (cs := #[.bool false, .slice none 0 0]) ?_ 0 _ rfl; (with_reducible repeat (first | refine blk_drewN ?_ _ | refine blk_drew ?_ | refine blk_alloc ?_ _)); exact BK295.out⟩, ⟨by repeat (first | (with_reducible first | exact HB.out | apply below_alloc | apply pw_below_drewN | apply below_drew1 | refine below_set ?_ GE281.out | refine below_set ?_ GE282.out | refine below_set ?_ GE283.out | refine below_set ?_ GE284.out | refine below_set ?_ GE295.out) | exact HB.out)⟩⟩
  ·rw [if_neg c29] at H
   have c29b0 : (a0_0 != a1_0) = false := by simpa using c29
   (try (have c29b1 : decide (a0_0 = a1_0) = true := by simpa using c29))
   (try (have c29b2 : (a0_0 == a1_0) = true := by simpa using c29))
   clear c29
   (first | rw [c29b0] | (simp only [i64_w, i32_w]; rw [c29b0]) | skip)
   have H' := Aside0.mk H
   clear H
   have hnb40 := NB281_282.out
   have hnc40 := NB282_281.out
   have hnb41 := NB281_283.out
   have hnc41 := NB283_281.out
   have hnb42 := NB281_284.out
   have hnc42 := NB284_281.out
   have hnb43 := NB281_295.out
   have hnc43 := NB295_281.out
   have hcz44_0 : w22.cell? ⟨gb281, 0, none⟩ = some (.bool a0_0) := (blk_cell BK281.out 0).trans rfl
   have hcz44_1 : w22.cell? ⟨gb281, 1, none⟩ = some (.slice A0_1 l0_1.length c0_1) := (blk_cell BK281.out 1).trans rfl
   have hfz44_0 := blk_frozen BK281.out 0
   have hfz44_1 := blk_frozen BK281.out 1
   have hnb45 := NB282_283.out
   have hnc45 := NB283_282.out
   have hnb46 := NB282_284.out
   have hnc46 := NB284_282.out
   have hnb47 := NB282_295.out
   have hnc47 := NB295_282.out
   have hcz48_0 : w22.cell? ⟨gb282, 0, none⟩ = some (.bool a1_0) := (blk_cell BK282.out 0).trans rfl
   have hcz48_1 : w22.cell? ⟨gb282, 1, none⟩ = some (.slice A1_1 l1_1.length c1_1) := (blk_cell BK282.out 1).trans rfl
   have hfz48_0 := blk_frozen BK282.out 0
   have hfz48_1 := blk_frozen BK282.out 1
   go_wp2
   go_meet
   case rel => exact ⟨_, (false), (by first | rfl | (simp; done) | (simp [*]; done)), H', ⟨by first | omega | exact Nat.le_refl _⟩, ⟨by (with_reducible repeat (first | apply Kd.R_alloc | apply Kd.R_drewN | apply Kd.R_drew)); exact Kd.R_mono (Kd.R_far (p := ⟨gb295, 1, none⟩) (Kd.R_far (p := ⟨gb295, 0, none⟩) (Kd.R_types HO294.out BK295.out (by decide)) (fun _ hk => hk.2) (.bool t291)) (fun _ hk => hk.2) (.slice Ao28 t292.length co28)) (fun _ hk => trivial)⟩, ⟨by (with_reducible repeat (first | refine blk_drewN ?_ _ | refine blk_drew ?_ | refine blk_alloc ?_ _)); refine blk_far ?_ NB281_295.out _; (with_reducible repeat (first | refine blk_drewN ?_ _ | refine blk_drew ?_ | refine blk_alloc ?_ _)); refine blk_far ?_ NB281_295.out _; (with_reducible repeat (first | refine blk_drewN ?_ _ | refine blk_drew ?_ | refine blk_alloc ?_ _)); exact BK281.out⟩, ⟨by (with_reducible repeat (first | refine blk_drewN ?_ _ | refine blk_drew ?_ | refine blk_alloc ?_ _)); refine blk_far ?_ NB282_295.out _; (with_reducible repeat (first | refine blk_drewN ?_ _ | refine blk_drew ?_ | refine blk_alloc ?_ _)); refine blk_far ?_ NB282_295.out _; (with_reducible repeat (first | refine blk_drewN ?_ _ | refine blk_drew ?_ | refine blk_alloc ?_ _)); exact BK282.out⟩, ⟨by (with_reducible repeat (first | refine blk_drewN ?_ _ | refine blk_drew ?_ | refine blk_alloc ?_ _)); refine blk_far ?_ NB283_295.out _; (with_reducible repeat (first | refine blk_drewN ?_ _ | refine blk_drew ?_ | refine blk_alloc ?_ _)); refine blk_far ?_ NB283_295.out _; (with_reducible repeat (first | refine blk_drewN ?_ _ | refine blk_drew ?_ | refine blk_alloc ?_ _)); exact BK283.out⟩, ⟨by (with_reducible repeat (first | refine blk_drewN ?_ _ | refine blk_drew ?_ | refine blk_alloc ?_ _)); refine blk_far ?_ NB284_295.out _; (with_reducible repeat (first | refine blk_drewN ?_ _ | refine blk_drew ?_ | refine blk_alloc ?_ _)); refine blk_far ?_ NB284_295.out _; (with_reducible repeat (first | refine blk_drewN ?_ _ | refine blk_drew ?_ | refine blk_alloc ?_ _)); exact BK284.out⟩, ⟨by (with_reducible repeat (first | refine blk_drewN ?_ _ | refine blk_drew ?_ | refine blk_alloc ?_ _)); refine blk_put (cs := #[.bool t291, .slice none 0 0]) ?_ 1 _ rfl; (with_reducible repeat (first | refine blk_drewN ?_ _ | refine blk_drew ?_ | refine blk_alloc ?_ _)); refine blk_put (cs := #[.bool false, .slice none 0 0]) ?_ 0 _ rfl; (with_reducible repeat (first | refine blk_drewN ?_ _ | refine blk_drew ?_ | refine blk_alloc ?_ _)); exact BK295.out⟩, ⟨by repeat (first | (with_reducible first | exact HB.out | apply below_alloc | apply pw_below_drewN | apply below_drew1 | refine below_set ?_ GE281.out | refine below_set ?_ GE282.out | refine below_set ?_ GE283.out | refine below_set ?_ GE284.out | refine below_set ?_ GE295.out) | exact HB.out)⟩⟩
 case rest =>
  clear HC5
  try clear c1
  try clear c2
  try clear p2
  try clear c3
  try clear c4
  try clear c5
  try clear c10
  try clear c11
  try clear c12
  try clear c14
  try clear c15
  try clear c23
  try clear c24
  try clear c25
  try clear c26
  try clear c29
  try clear c29b0
  try clear c29b1
  try clear c29b2
  try clear c30
  try clear c31
  try clear c32
  try clear c33
  try clear c35
  try clear c36
  try clear c37
  try clear c39
  try clear c40
  try clear c41
  try clear c42
  try clear c43
  try clear c45
  try clear c46
  try clear c47
  try clear hcz13_0
  try clear hcz13_1
  try clear hcz16_0
  try clear hcz16_1
  try clear hcz18_0
  try clear hcz18_1
  try clear hcz19_0
  try clear hcz19_1
  try clear hcz27_0
  try clear hcz27_1
  try clear hcz34_0
  try clear hcz34_1
  try clear hcz38_0
  try clear hcz38_1
  try clear hcz44_0
  try clear hcz44_1
  try clear hcz48_0
  try clear hcz48_1
  try clear hfz13_0
  try clear hfz13_1
  try clear hfz16_0
  try clear hfz16_1
  try clear hfz18_0
  try clear hfz18_1
  try clear hfz19_0
  try clear hfz19_1
  try clear hfz27_0
  try clear hfz27_1
  try clear hfz34_0
  try clear hfz34_1
  try clear hfz38_0
  try clear hfz38_1
  try clear hfz44_0
  try clear hfz44_1
  try clear hfz48_0
  try clear hfz48_1
  obtain ⟨kq, x33_4, rfl, HA, HJ4, HO_296001, BK281, BK282, BK283, BK284, BK295, HB⟩ := hcut
  cases kq with
  | zero => exact absurd HA.out (by simp [spec_l1Floor.j0])
  | succ kj4 =>
   have H := HA.out
   clear HA
   simp only [spec_l1Floor.j0] at H
   have HC49 := Aside0.mk H
   clear H
   go_upto_if 33 with (fail)
   go_cut [] (fun wc => ∃ (kq : Nat) (x296000_48 : Bool) (x296001_48 : List Int) (u296001 : Value), Aside0 (spec_l1Floor.j1 kq a0_0 l0_1 a1_0 l1_1 x296000_48 x296001_48 = some (r1, r2, r3, r4)) ∧ Aside0 (kq ≤ kj4) ∧ Aside0 (Kd.R (Kd.int .u32) 61 wc w.heap.size (fun _ => True) u296001 x296001_48) ∧ Aside0 (wc.heap[gb281]? = some (.cells #[.bool a0_0, (.slice A0_1 l0_1.length c0_1)] 36 (0, 0))) ∧ Aside0 (wc.heap[gb282]? = some (.cells #[.bool a1_0, (.slice A1_1 l1_1.length c1_1)] 36 (0, 0))) ∧ Aside0 (wc.heap[gb283]? = some (.cells #[.bool false, (.slice none 0 0)] 36 (0, 0))) ∧ Aside0 (wc.heap[gb284]? = some (.cells #[.bool false, (.slice none 0 0)] 36 (0, 0))) ∧ Aside0 (wc.heap[gb295]? = some (.cells #[.bool x296000_48, u296001] 36 (0, 0))) ∧ Aside0 (Below w.heap.size w wc))
   case first =>
    have H := HC49.out
    clear HC49
    by_cases c50 : x33_4 = true
    ·subst c50
     have H1 : ((spec_BigOf.f kj4 (-1)).bind fun bt296 => ((spec_l1Sum.f kj4 t291 t292 bt296.1 bt296.2).bind fun bt300 => (spec_l1Floor.j1 kj4 a0_0 l0_1 a1_0 l1_1 bt300.1 bt300.2))) = some (r1, r2, r3, r4) := by rw [if_pos rfl] at H; exact H
     clear H
     have H := H1
     clear H1
     replace H := Option.bind_eq_some_iff.mp H
     obtain ⟨⟨t296, t297⟩, A510, H⟩ := H
     replace H : ((spec_l1Sum.f kj4 t291 t292 t296 t297).bind fun bt300 => (spec_l1Floor.j1 kj4 a0_0 l0_1 a1_0 l1_1 bt300.1 bt300.2)) = some (r1, r2, r3, r4) := H
     have A51 := Aside0.mk A510
     clear A510
     replace H := Option.bind_eq_some_iff.mp H
     obtain ⟨⟨t300, t301⟩, A520, H⟩ := H
     replace H : (spec_l1Floor.j1 kj4 a0_0 l0_1 a1_0 l1_1 t300 t301) = some (r1, r2, r3, r4) := H
     have A52 := Aside0.mk A520
     clear A520
     have H' := Aside0.mk H
     clear H
     try go_wp2
     have n0_ := Aside0.mk (Kd.R_drew HO_296001.out)
     have n1_ := Aside0.mk (blk_drew BK281.out)
     have n2_ := Aside0.mk (blk_drew BK282.out)
     have n3_ := Aside0.mk (blk_drew BK283.out)
     have n4_ := Aside0.mk (blk_drew BK284.out)
     have n5_ := Aside0.mk (blk_drew BK295.out)
     have n6_ := Aside0.mk (below_drew1 HB.out)
     clear HO_296001
     clear BK281
     clear BK282
     clear BK283
     clear BK284
     clear BK295
     clear HB
     have HO_296001 := n0_
     have BK281 := n1_
     have BK282 := n2_
     have BK283 := n3_
     have BK284 := n4_
     have BK295 := n5_
     have HB := n6_
     clear n0_ n1_ n2_ n3_ n4_ n5_ n6_
     refine start_ (n := 4) (S := fun w' => w'.cell? ⟨gb295, 0, none⟩ = some (.bool t291) ∧ w'.cell? ⟨gb295, 1, none⟩ = some (.slice Ao28 t292.length co28)) (ds := [3]) #[false, false, false, false] (by kernel_rfl) rfl rfl ⟨(blk_cell BK295.out 0).trans rfl, (blk_cell BK295.out 1).trans rfl⟩ (fun hHeld => ?_)
     generalize wc.drew = w53 at HO_296001 BK281 BK282 BK283 BK284 BK295 HB hHeld ⊢
     refine take_ (i := 0) (N := some 34) (v := ?_) (a' := ?_) #[true, false, false, false] rfl rfl (by kernel_rfl) (fun _ _ _ h => h) (Or.inl ⟨by rfl, ?_⟩) hHeld ?_ ?_
     rotate_left
     ·rintro w' ⟨s0, s1⟩
      go_simp
      with_reducible rfl
     rotate_left
     ·simp only [Act.put, List.setIfInBounds_toArray, List.set_cons_zero, List.set_cons_succ, i64_w, i32_w]
      rfl
     refine one_ (i := 1) (N := some 35) #[true, true, false, false] rfl rfl (by kernel_rfl) (by decide) (fun K hK => ?_)
     refine goes_ Try.func47 (by kernel_rfl) rfl #[.int .i64 (-1)] (by rfl) rfl rfl (by (try simp only [List.map_toArray, List.map_cons, List.map_nil]); first | done | rfl | (simp only [List.length_drop, List.length_take]; rfl)) ?_
     with_reducible refine (spec_BigOf.calls kj4 (-1) t296 t297 _ A51.out).mono ?_
     rintro e w54 ⟨v298, rfl, ho0, hb⟩
     refine ⟨_, rfl, ?_⟩
     have n0_ := Aside0.mk (Kd.R_elder' (by (with_reducible repeat (first | apply Kd.R_alloc | apply Kd.R_drewN | apply Kd.R_drew)); exact HO_296001.out) (Kd.R_base ho0) hb)
     have n1_ := Aside0.mk (Kd.R_lower (Kd.R_new' ho0 (Kd.R_lt (by (with_reducible repeat (first | apply Kd.R_alloc | apply Kd.R_drewN | apply Kd.R_drew)); exact HO_296001.out))) (below_size (by repeat (first | (with_reducible first | exact HB.out | apply below_alloc | apply pw_below_drewN | apply below_drew1 | refine below_set ?_ GE281.out | refine below_set ?_ GE282.out | refine below_set ?_ GE283.out | refine below_set ?_ GE284.out | refine below_set ?_ GE295.out) | exact HB.out))))
     have n2_ := Aside0.mk (blk_below (g := gb281) (o := .cells #[.bool a0_0, .slice A0_1 l0_1.length c0_1] 36 (0, 0)) (by (with_reducible repeat (first | refine blk_drewN ?_ _ | refine blk_drew ?_ | refine blk_alloc ?_ _)); exact BK281.out) hb)
     have n3_ := Aside0.mk (blk_below (g := gb282) (o := .cells #[.bool a1_0, .slice A1_1 l1_1.length c1_1] 36 (0, 0)) (by (with_reducible repeat (first | refine blk_drewN ?_ _ | refine blk_drew ?_ | refine blk_alloc ?_ _)); exact BK282.out) hb)
     have n4_ := Aside0.mk (blk_below (g := gb283) (o := .cells #[.bool false, .slice none 0 0] 36 (0, 0)) (by (with_reducible repeat (first | refine blk_drewN ?_ _ | refine blk_drew ?_ | refine blk_alloc ?_ _)); exact BK283.out) hb)
     have n5_ := Aside0.mk (blk_below (g := gb284) (o := .cells #[.bool false, .slice none 0 0] 36 (0, 0)) (by (with_reducible repeat (first | refine blk_drewN ?_ _ | refine blk_drew ?_ | refine blk_alloc ?_ _)); exact BK284.out) hb)
     have n6_ := Aside0.mk (blk_below (g := gb295) (o := .cells #[.bool t291, .slice Ao28 t292.length co28] 36 (0, 0)) (by (with_reducible repeat (first | refine blk_drewN ?_ _ | refine blk_drew ?_ | refine blk_alloc ?_ _)); exact BK295.out) hb)
     have n7_ := Aside0.mk (below_step (by repeat (first | (with_reducible first | exact HB.out | apply below_alloc | apply pw_below_drewN | apply below_drew1 | refine below_set ?_ GE281.out | refine below_set ?_ GE282.out | refine below_set ?_ GE283.out | refine below_set ?_ GE284.out | refine below_set ?_ GE295.out) | exact HB.out)) hb)
     clear HO_296001
     clear BK281
     clear BK282
     clear BK283
     clear BK284
     clear BK295
     clear HB
     have HO_296001 := n0_
     have HO299 := n1_
     have BK281 := n2_
     have BK282 := n3_
     have BK283 := n4_
     have BK284 := n5_
     have BK295 := n6_
     have HB := n7_
     clear n0_ n1_ n2_ n3_ n4_ n5_ n6_ n7_
     (try clear hb)
     (try clear hb2)
     (try clear hk)
     (try clear hi)
     (try clear ho0)
     obtain ⟨Ao55, co55, eo55⟩ := Kd.R_slice HO299.out
     (first | subst eo55 | (injection eo55 with f1_ f2_ f3_; have f4_ := f1_.symm; have f5_ := f3_.symm; clear f1_ f2_ f3_; subst f4_; subst f5_))
     refine hK.out _ _ ⟨(blk_cell BK295.out 0).trans rfl, (blk_cell BK295.out 1).trans rfl⟩ (fun hHeld => ?_)
     clear hK K
     refine norm_ (a' := ?_) ?_ ?_
     rotate_left
     ·show Act.put _ (some 35) _ = _
      simp only [Act.put, List.setIfInBounds_toArray, List.set_cons_zero, List.set_cons_succ, i64_w, i32_w]
      rfl
     refine one_ (i := 2) (N := some 36) #[true, true, true, false] rfl rfl (by kernel_rfl) (by decide) (fun K hK => ?_)
     refine goes_ Try.func30 (by kernel_rfl) rfl #[.agg #[.bool t291, .slice Ao28 t292.length co28], .agg #[.bool t296, .slice Ao55 t297.length co55]] (by rfl) rfl rfl (by (try simp only [List.map_toArray, List.map_cons, List.map_nil]); first | done | rfl | (simp only [List.length_drop, List.length_take]; rfl)) ?_
     with_reducible refine (spec_l1Sum.calls kj4 t291 _ _ t292 t296 _ _ t297 t300 t301 _ ?side1 ?side2 ?side3 ?side4 A52.out).mono ?_
     (case side1 => repeat (first | exact (Kd.R_reads' HO_296001.out).2.2 | (with_reducible refine Kd.C_alloc ?_ _) | (with_reducible refine Kd.C_drewN ?_ _) | (with_reducible refine Kd.C_drew ?_)))
     (case side2 => exact (Kd.R_reads' HO_296001.out).2.1)
     (case side3 => repeat (first | exact (Kd.R_reads' HO299.out).2.2 | (with_reducible refine Kd.C_alloc ?_ _) | (with_reducible refine Kd.C_drewN ?_ _) | (with_reducible refine Kd.C_drew ?_)))
     (case side4 => exact (Kd.R_reads' HO299.out).2.1)
     rintro e w56 ⟨v302, rfl, ho0, hb⟩
     refine ⟨_, rfl, ?_⟩
     have n0_ := Aside0.mk (Kd.R_elder' (by (with_reducible repeat (first | apply Kd.R_alloc | apply Kd.R_drewN | apply Kd.R_drew)); exact HO_296001.out) (Kd.R_base ho0) hb)
     have n1_ := Aside0.mk (Kd.R_elder' (by (with_reducible repeat (first | apply Kd.R_alloc | apply Kd.R_drewN | apply Kd.R_drew)); exact HO299.out) (Kd.R_base ho0) hb)
     have n2_ := Aside0.mk (Kd.R_lower (Kd.R_new' (Kd.R_new' ho0 (Kd.R_lt (by (with_reducible repeat (first | apply Kd.R_alloc | apply Kd.R_drewN | apply Kd.R_drew)); exact HO_296001.out))) (Kd.R_lt (by (with_reducible repeat (first | apply Kd.R_alloc | apply Kd.R_drewN | apply Kd.R_drew)); exact HO299.out))) (below_size (by repeat (first | (with_reducible first | exact HB.out | apply below_alloc | apply pw_below_drewN | apply below_drew1 | refine below_set ?_ GE281.out | refine below_set ?_ GE282.out | refine below_set ?_ GE283.out | refine below_set ?_ GE284.out | refine below_set ?_ GE295.out) | exact HB.out))))
     have n3_ := Aside0.mk (blk_below (g := gb281) (o := .cells #[.bool a0_0, .slice A0_1 l0_1.length c0_1] 36 (0, 0)) (by (with_reducible repeat (first | refine blk_drewN ?_ _ | refine blk_drew ?_ | refine blk_alloc ?_ _)); exact BK281.out) hb)
     have n4_ := Aside0.mk (blk_below (g := gb282) (o := .cells #[.bool a1_0, .slice A1_1 l1_1.length c1_1] 36 (0, 0)) (by (with_reducible repeat (first | refine blk_drewN ?_ _ | refine blk_drew ?_ | refine blk_alloc ?_ _)); exact BK282.out) hb)
     have n5_ := Aside0.mk (blk_below (g := gb283) (o := .cells #[.bool false, .slice none 0 0] 36 (0, 0)) (by (with_reducible repeat (first | refine blk_drewN ?_ _ | refine blk_drew ?_ | refine blk_alloc ?_ _)); exact BK283.out) hb)
     have n6_ := Aside0.mk (blk_below (g := gb284) (o := .cells #[.bool false, .slice none 0 0] 36 (0, 0)) (by (with_reducible repeat (first | refine blk_drewN ?_ _ | refine blk_drew ?_ | refine blk_alloc ?_ _)); exact BK284.out) hb)
     have n7_ := Aside0.mk (blk_below (g := gb295) (o := .cells #[.bool t291, .slice Ao28 t292.length co28] 36 (0, 0)) (by (with_reducible repeat (first | refine blk_drewN ?_ _ | refine blk_drew ?_ | refine blk_alloc ?_ _)); exact BK295.out) hb)
     have n8_ := Aside0.mk (below_step (by repeat (first | (with_reducible first | exact HB.out | apply below_alloc | apply pw_below_drewN | apply below_drew1 | refine below_set ?_ GE281.out | refine below_set ?_ GE282.out | refine below_set ?_ GE283.out | refine below_set ?_ GE284.out | refine below_set ?_ GE295.out) | exact HB.out)) hb)
     clear HO_296001
     clear HO299
     clear BK281
     clear BK282
     clear BK283
     clear BK284
     clear BK295
     clear HB
     have HO_296001 := n0_
     have HO299 := n1_
     have HO303 := n2_
     have BK281 := n3_
     have BK282 := n4_
     have BK283 := n5_
     have BK284 := n6_
     have BK295 := n7_
     have HB := n8_
     clear n0_ n1_ n2_ n3_ n4_ n5_ n6_ n7_ n8_
     (try clear hb)
     (try clear hb2)
     (try clear hk)
     (try clear hi)
     (try clear ho0)
     obtain ⟨Ao58, co58, eo58⟩ := Kd.R_slice HO303.out
     (first | subst eo58 | (injection eo58 with f1_ f2_ f3_; have f4_ := f1_.symm; have f5_ := f3_.symm; clear f1_ f2_ f3_; subst f4_; subst f5_))
     refine hK.out _ _ ⟨(blk_cell BK295.out 0).trans rfl, (blk_cell BK295.out 1).trans rfl⟩ (fun hHeld => ?_)
     clear hK K
     refine norm_ (a' := ?_) ?_ ?_
     rotate_left
     ·show Act.put _ (some 36) _ = _
      simp only [Act.put, List.setIfInBounds_toArray, List.set_cons_zero, List.set_cons_succ, i64_w, i32_w]
      rfl
     refine last_ (i := 3) (N := none) #[true, true, true, true] rfl rfl (by kernel_rfl) (by decide) (fun K hK => ?_)
     have hs57 : w56.cell? ⟨gb295, 0, none⟩ = some (.bool t291) := (blk_cell BK295.out 0).trans rfl
     have hfs57 := blk_frozen BK295.out 0
     have hns57_0 := NB281_295.out
     have hns57_1 := NB282_295.out
     have hns57_2 := NB283_295.out
     have hns57_3 := NB284_295.out
     have hms57_0 := NB295_281.out
     have hms57_1 := NB295_282.out
     have hms57_2 := NB295_283.out
     have hms57_3 := NB295_284.out
     have hs59 : w56.cell? ⟨gb295, 1, none⟩ = some (.slice Ao28 t292.length co28) := (blk_cell BK295.out 1).trans rfl
     have hfs59 := blk_frozen BK295.out 1
     have hns59_0 := NB281_295.out
     have hns59_1 := NB282_295.out
     have hns59_2 := NB283_295.out
     have hns59_3 := NB284_295.out
     have hms59_0 := NB295_281.out
     have hms59_1 := NB295_282.out
     have hms59_2 := NB295_283.out
     have hms59_3 := NB295_284.out
     refine skip_ (w1 := ?_) (by rfl) rfl ?_ ?_
     rotate_left
     ·go_simp
      rfl
     refine hK.out _ _ ?_
     clear hK K
     refine done_ (by kernel_rfl) ?_
     try go_wp2
     go_meet
     case rel => exact ⟨_, (t300), (t301), (.slice Ao58 t301.length co58), H', ⟨by have := HJ4.out; first | omega | exact Nat.le_refl _⟩, ⟨by (with_reducible repeat (first | apply Kd.R_alloc | apply Kd.R_drewN | apply Kd.R_drew)); exact Kd.R_mono (Kd.R_far (p := ⟨gb295, 1, none⟩) (Kd.R_far (p := ⟨gb295, 0, none⟩) (Kd.R_types HO303.out BK295.out (by decide)) (fun _ hk => hk.2) (.bool t300)) (fun _ hk => hk.2) (.slice Ao58 t301.length co58)) (fun _ hk => trivial)⟩, ⟨by (with_reducible repeat (first | refine blk_drewN ?_ _ | refine blk_drew ?_ | refine blk_alloc ?_ _)); refine blk_far ?_ NB281_295.out _; (with_reducible repeat (first | refine blk_drewN ?_ _ | refine blk_drew ?_ | refine blk_alloc ?_ _)); refine blk_far ?_ NB281_295.out _; (with_reducible repeat (first | refine blk_drewN ?_ _ | refine blk_drew ?_ | refine blk_alloc ?_ _)); exact BK281.out⟩, ⟨by (with_reducible repeat (first | refine blk_drewN ?_ _ | refine blk_drew ?_ | refine blk_alloc ?_ _)); refine blk_far ?_ NB282_295.out _; (with_reducible repeat (first | refine blk_drewN ?_ _ | refine blk_drew ?_ | refine blk_alloc ?_ _)); refine blk_far ?_ NB282_295.out _; (with_reducible repeat (first | refine blk_drewN ?_ _ | refine blk_drew ?_ | refine blk_alloc ?_ _)); exact BK282.out⟩, ⟨by (with_reducible repeat (first | refine blk_drewN ?_ _ | refine blk_drew ?_ | refine blk_alloc ?_ _)); refine blk_far ?_ NB283_295.out _; (with_reducible repeat (first | refine blk_drewN ?_ _ | refine blk_drew ?_ | refine blk_alloc ?_ _)); refine blk_far ?_ NB283_295.out _; (with_reducible repeat (first | refine blk_drewN ?_ _ | refine blk_drew ?_ | refine blk_alloc ?_ _)); exact BK283.out⟩, ⟨by (with_reducible repeat (first | refine blk_drewN ?_ _ | refine blk_drew ?_ | refine blk_alloc ?_ _)); refine blk_far ?_ NB284_295.out _; (with_reducible repeat (first | refine blk_drewN ?_ _ | refine blk_drew ?_ | refine blk_alloc ?_ _)); refine blk_far ?_ NB284_295.out _; (with_reducible repeat (first | refine blk_drewN ?_ _ | refine blk_drew ?_ | refine blk_alloc ?_ _)); exact BK284.out⟩, ⟨by (with_reducible repeat (first | refine blk_drewN ?_ _ | refine blk_drew ?_ | refine blk_alloc ?_ _)); refine blk_put (cs := #[.bool t300, .slice Ao28 t292.length co28]) ?_ 1 _ rfl; (with_reducible repeat (first | refine blk_drewN ?_ _ | refine blk_drew ?_ | refine blk_alloc ?_ _)); refine blk_put (cs := #[.bool t291, .slice Ao28 t292.length co28]) ?_ 0 _ rfl; (with_reducible repeat (first | refine blk_drewN ?_ _ | refine blk_drew ?_ | refine blk_alloc ?_ _)); exact BK295.out⟩, ⟨by repeat (first | (with_reducible first | exact HB.out | apply below_alloc | apply pw_below_drewN | apply below_drew1 | refine below_set ?_ GE281.out | refine below_set ?_ GE282.out | refine below_set ?_ GE283.out | refine below_set ?_ GE284.out | refine below_set ?_ GE295.out) | exact HB.out)⟩⟩
    ·replace c50 := Bool.eq_false_iff.mpr c50
     subst c50
     have H1 : (spec_l1Floor.j1 kj4 a0_0 l0_1 a1_0 l1_1 t291 t292) = some (r1, r2, r3, r4) := by rw [if_neg (show ¬ (false = true) by decide)] at H; exact H
     clear H
     have H := H1
     clear H1
     have H' := Aside0.mk H
     clear H
     go_wp2
     go_meet
     case rel => exact ⟨_, (t291), (t292), (.slice Ao28 t292.length co28), H', ⟨by have := HJ4.out; first | omega | exact Nat.le_refl _⟩, ⟨by (with_reducible repeat (first | apply Kd.R_alloc | apply Kd.R_drewN | apply Kd.R_drew)); exact HO_296001.out⟩, ⟨by (with_reducible repeat (first | refine blk_drewN ?_ _ | refine blk_drew ?_ | refine blk_alloc ?_ _)); exact BK281.out⟩, ⟨by (with_reducible repeat (first | refine blk_drewN ?_ _ | refine blk_drew ?_ | refine blk_alloc ?_ _)); exact BK282.out⟩, ⟨by (with_reducible repeat (first | refine blk_drewN ?_ _ | refine blk_drew ?_ | refine blk_alloc ?_ _)); exact BK283.out⟩, ⟨by (with_reducible repeat (first | refine blk_drewN ?_ _ | refine blk_drew ?_ | refine blk_alloc ?_ _)); exact BK284.out⟩, ⟨by (with_reducible repeat (first | refine blk_drewN ?_ _ | refine blk_drew ?_ | refine blk_alloc ?_ _)); exact BK295.out⟩, ⟨by repeat (first | (with_reducible first | exact HB.out | apply below_alloc | apply pw_below_drewN | apply below_drew1 | refine below_set ?_ GE281.out | refine below_set ?_ GE282.out | refine below_set ?_ GE283.out | refine below_set ?_ GE284.out | refine below_set ?_ GE295.out) | exact HB.out)⟩⟩
   case rest =>
    clear HC49
    try clear c1
    try clear c2
    try clear p2
    try clear c3
    try clear c4
    try clear c5
    try clear c10
    try clear c11
    try clear c12
    try clear c14
    try clear c15
    try clear c23
    try clear c24
    try clear c25
    try clear c26
    try clear c29
    try clear c29b0
    try clear c29b1
    try clear c29b2
    try clear c30
    try clear c31
    try clear c32
    try clear c33
    try clear c35
    try clear c36
    try clear c37
    try clear c39
    try clear c40
    try clear c41
    try clear c42
    try clear c43
    try clear c45
    try clear c46
    try clear c47
    try clear c50
    try clear c56
    try clear hcz13_0
    try clear hcz13_1
    try clear hcz16_0
    try clear hcz16_1
    try clear hcz18_0
    try clear hcz18_1
    try clear hcz19_0
    try clear hcz19_1
    try clear hcz27_0
    try clear hcz27_1
    try clear hcz34_0
    try clear hcz34_1
    try clear hcz38_0
    try clear hcz38_1
    try clear hcz44_0
    try clear hcz44_1
    try clear hcz48_0
    try clear hcz48_1
    try clear hfz13_0
    try clear hfz13_1
    try clear hfz16_0
    try clear hfz16_1
    try clear hfz18_0
    try clear hfz18_1
    try clear hfz19_0
    try clear hfz19_1
    try clear hfz27_0
    try clear hfz27_1
    try clear hfz34_0
    try clear hfz34_1
    try clear hfz38_0
    try clear hfz38_1
    try clear hfz44_0
    try clear hfz44_1
    try clear hfz48_0
    try clear hfz48_1
    try clear p2
    obtain ⟨kq, x296000_48, x296001_48, u296001, HA, HJ48, HO_296001, BK281, BK282, BK283, BK284, BK295, HB⟩ := hcut
    cases kq with
    | zero => exact absurd HA.out (by simp [spec_l1Floor.j1])
    | succ kj48 =>
     have H := HA.out
     clear HA
     simp only [spec_l1Floor.j1] at H
     replace H := Option.bind_eq_some_iff.mp H
     obtain ⟨t304, A600, H⟩ := H
     replace H : ((spec_l1Big.f kj48 (x296000_48 != a1_0) t304).bind fun bt307 => ((spec_l1Minus.f kj48 bt307.1 bt307.2).bind fun bt311 => ((spec_l1Sum.f kj48 a0_0 l0_1 bt311.1 bt311.2).bind fun bt315 => (some (x296000_48, x296001_48, bt315.1, bt315.2))))) = some (r1, r2, r3, r4) := H
     have A60 := Aside0.mk A600
     clear A600
     replace H := Option.bind_eq_some_iff.mp H
     obtain ⟨⟨t307, t308⟩, A610, H⟩ := H
     replace H : ((spec_l1Minus.f kj48 t307 t308).bind fun bt311 => ((spec_l1Sum.f kj48 a0_0 l0_1 bt311.1 bt311.2).bind fun bt315 => (some (x296000_48, x296001_48, bt315.1, bt315.2)))) = some (r1, r2, r3, r4) := H
     have A61 := Aside0.mk A610
     clear A610
     replace H := Option.bind_eq_some_iff.mp H
     obtain ⟨⟨t311, t312⟩, A620, H⟩ := H
     replace H : ((spec_l1Sum.f kj48 a0_0 l0_1 t311 t312).bind fun bt315 => (some (x296000_48, x296001_48, bt315.1, bt315.2))) = some (r1, r2, r3, r4) := H
     have A62 := Aside0.mk A620
     clear A620
     replace H := Option.bind_eq_some_iff.mp H
     obtain ⟨⟨t315, t316⟩, A630, H⟩ := H
     replace H : (some (x296000_48, x296001_48, t315, t316)) = some (r1, r2, r3, r4) := H
     have A63 := Aside0.mk A630
     clear A630
     simp only [Option.some.injEq, Prod.mk.injEq] at H
     obtain ⟨rfl, rfl, rfl, rfl⟩ := H
     try go_wp2
     have n0_ := Aside0.mk (Kd.R_drew HO_296001.out)
     have n1_ := Aside0.mk (blk_drew BK281.out)
     have n2_ := Aside0.mk (blk_drew BK282.out)
     have n3_ := Aside0.mk (blk_drew BK283.out)
     have n4_ := Aside0.mk (blk_drew BK284.out)
     have n5_ := Aside0.mk (blk_drew BK295.out)
     have n6_ := Aside0.mk (below_drew1 HB.out)
     clear HO_296001
     clear BK281
     clear BK282
     clear BK283
     clear BK284
     clear BK295
     clear HB
     have HO_296001 := n0_
     have BK281 := n1_
     have BK282 := n2_
     have BK283 := n3_
     have BK284 := n4_
     have BK295 := n5_
     have HB := n6_
     clear n0_ n1_ n2_ n3_ n4_ n5_ n6_
     obtain ⟨Ao65, co65, eo65⟩ := Kd.R_slice HO_296001.out
     (first | subst eo65 | (injection eo65 with f1_ f2_ f3_; have f4_ := f1_.symm; have f5_ := f3_.symm; clear f1_ f2_ f3_; subst f4_; subst f5_))
     refine start_ (n := 17) (S := fun w' => w'.cell? ⟨gb295, 0, none⟩ = some (.bool x296000_48) ∧ w'.cell? ⟨gb295, 1, none⟩ = some (.slice Ao65 x296001_48.length co65) ∧ w'.cell? ⟨gb281, 0, none⟩ = some (.bool a0_0) ∧ w'.cell? ⟨gb281, 1, none⟩ = some (.slice A0_1 l0_1.length c0_1) ∧ w'.cell? ⟨gb282, 0, none⟩ = some (.bool a1_0) ∧ w'.cell? ⟨gb282, 1, none⟩ = some (.slice A1_1 l1_1.length c1_1)) (ds := []) #[false, false, false, false, false, false, false, false, false, false, false, false, false, false, false, false, false] (by kernel_rfl) rfl rfl ⟨(blk_cell BK295.out 0).trans rfl, (blk_cell BK295.out 1).trans rfl, (blk_cell BK281.out 0).trans rfl, (blk_cell BK281.out 1).trans rfl, (blk_cell BK282.out 0).trans rfl, (blk_cell BK282.out 1).trans rfl⟩ (fun hHeld => ?_); refine with_tabW spec_l1Floor.tab5 spec_l1Floor.bits5 (fun HT_ HW_ => ?_)
     generalize wc.drew = w64 at HO_296001 BK281 BK282 BK283 BK284 BK295 HB hHeld ⊢
     refine pure_ (i := 2) (N := some 39) (v := ?_) (a' := ?_) #[false, false, true, false, false, false, false, false, false, false, false, false, false, false, false, false, false] rfl rfl (any_of HT_.out (by kernel_rfl)) (fun _ _ _ h => h) (Or.inl ⟨by rfl, ?_⟩) ?_ ?_
     rotate_left
     ·intro w'
      go_simp
      with_reducible rfl
     rotate_left
     ·simp only [Act.put, List.setIfInBounds_toArray, List.set_cons_zero, List.set_cons_succ, i64_w, i32_w]
      rfl
     refine pure_ (i := 4) (N := some 41) (v := ?_) (a' := ?_) #[false, false, true, false, true, false, false, false, false, false, false, false, false, false, false, false, false] rfl rfl (any_of HT_.out (by kernel_rfl)) (fun _ _ _ h => h) (Or.inl ⟨by rfl, ?_⟩) ?_ ?_
     rotate_left
     ·intro w'
      go_simp
      with_reducible rfl
     rotate_left
     ·simp only [Act.put, List.setIfInBounds_toArray, List.set_cons_zero, List.set_cons_succ, i64_w, i32_w]
      rfl
     refine pure_ (i := 7) (N := some 44) (v := ?_) (a' := ?_) #[false, false, true, false, true, false, false, true, false, false, false, false, false, false, false, false, false] rfl rfl (any_of HT_.out (by kernel_rfl)) (fun _ _ _ h => h) (Or.inl ⟨by rfl, ?_⟩) ?_ ?_
     rotate_left
     ·intro w'
      go_simp
      with_reducible rfl
     rotate_left
     ·simp only [Act.put, List.setIfInBounds_toArray, List.set_cons_zero, List.set_cons_succ, i64_w, i32_w]
      rfl
     refine pure_ (i := 9) (N := some 46) (v := ?_) (a' := ?_) #[false, false, true, false, true, false, false, true, false, true, false, false, false, false, false, false, false] rfl rfl (any_of HT_.out (by kernel_rfl)) (fun _ _ _ h => h) (Or.inl ⟨by rfl, ?_⟩) ?_ ?_
     rotate_left
     ·intro w'
      go_simp
      with_reducible rfl
     rotate_left
     ·simp only [Act.put, List.setIfInBounds_toArray, List.set_cons_zero, List.set_cons_succ, i64_w, i32_w]
      rfl
     refine take_ (i := 0) (N := some 37) (v := ?_) (a' := ?_) #[true, false, true, false, true, false, false, true, false, true, false, false, false, false, false, false, false] rfl rfl (take_ofW HT_.out HW_.out (by kernel_rfl)) (fun _ _ _ h => h) (Or.inl ⟨by rfl, ?_⟩) hHeld ?_ ?_
     rotate_left
     ·rintro w' ⟨s0, s1, s2, s3, s4, s5⟩
      go_simp
      with_reducible rfl
     rotate_left
     ·simp only [Act.put, List.setIfInBounds_toArray, List.set_cons_zero, List.set_cons_succ, i64_w, i32_w]
      rfl
     refine take_ (i := 1) (N := some 38) (v := ?_) (a' := ?_) #[true, true, true, false, true, false, false, true, false, true, false, false, false, false, false, false, false] rfl rfl (take_ofW HT_.out HW_.out (by kernel_rfl)) (fun _ _ _ h => h) (Or.inl ⟨by rfl, ?_⟩) hHeld ?_ ?_
     rotate_left
     ·rintro w' ⟨s0, s1, s2, s3, s4, s5⟩
      go_simp
      with_reducible rfl
     rotate_left
     ·simp only [Act.put, List.setIfInBounds_toArray, List.set_cons_zero, List.set_cons_succ, i64_w, i32_w]
      rfl
     refine take_ (i := 3) (N := some 40) (v := ?_) (a' := ?_) #[true, true, true, true, true, false, false, true, false, true, false, false, false, false, false, false, false] rfl rfl (take_ofW HT_.out HW_.out (by kernel_rfl)) (fun _ _ _ h => h) (Or.inl ⟨by rfl, ?_⟩) hHeld ?_ ?_
     rotate_left
     ·rintro w' ⟨s0, s1, s2, s3, s4, s5⟩
      go_simp
      with_reducible rfl
     rotate_left
     ·simp only [Act.put, List.setIfInBounds_toArray, List.set_cons_zero, List.set_cons_succ, i64_w, i32_w]
      rfl
     refine take_ (i := 5) (N := some 42) (v := ?_) (a' := ?_) #[true, true, true, true, true, true, false, true, false, true, false, false, false, false, false, false, false] rfl rfl (take_ofW HT_.out HW_.out (by kernel_rfl)) (fun _ _ _ h => h) (Or.inl ⟨by rfl, ?_⟩) hHeld ?_ ?_
     rotate_left
     ·rintro w' ⟨s0, s1, s2, s3, s4, s5⟩
      go_simp
      with_reducible rfl
     rotate_left
     ·simp only [Act.put, List.setIfInBounds_toArray, List.set_cons_zero, List.set_cons_succ, i64_w, i32_w]
      rfl
     refine pure_ (i := 6) (N := some 43) (v := ?_) (a' := ?_) #[true, true, true, true, true, true, true, true, false, true, false, false, false, false, false, false, false] rfl rfl (any_of HT_.out (by kernel_rfl)) (fun _ _ _ h => h) (Or.inl ⟨by rfl, ?_⟩) ?_ ?_
     rotate_left
     ·intro w'
      go_simp
      with_reducible rfl
     rotate_left
     ·simp only [Act.put, List.setIfInBounds_toArray, List.set_cons_zero, List.set_cons_succ, i64_w, i32_w]
      rfl
     refine take_ (i := 8) (N := some 45) (v := ?_) (a' := ?_) #[true, true, true, true, true, true, true, true, true, true, false, false, false, false, false, false, false] rfl rfl (take_ofW HT_.out HW_.out (by kernel_rfl)) (fun _ _ _ h => h) (Or.inl ⟨by rfl, ?_⟩) hHeld ?_ ?_
     rotate_left
     ·rintro w' ⟨s0, s1, s2, s3, s4, s5⟩
      go_simp
      with_reducible rfl
     rotate_left
     ·simp only [Act.put, List.setIfInBounds_toArray, List.set_cons_zero, List.set_cons_succ, i64_w, i32_w]
      rfl
     refine take_ (i := 10) (N := some 47) (v := ?_) (a' := ?_) #[true, true, true, true, true, true, true, true, true, true, true, false, false, false, false, false, false] rfl rfl (take_ofW HT_.out HW_.out (by kernel_rfl)) (fun _ _ _ h => h) (Or.inl ⟨by rfl, ?_⟩) hHeld ?_ ?_
     rotate_left
     ·rintro w' ⟨s0, s1, s2, s3, s4, s5⟩
      go_simp
      with_reducible rfl
     rotate_left
     ·simp only [Act.put, List.setIfInBounds_toArray, List.set_cons_zero, List.set_cons_succ, i64_w, i32_w]
      rfl
     refine one_ (i := 11) (N := some 48) #[true, true, true, true, true, true, true, true, true, true, true, true, false, false, false, false, false] rfl rfl (one_of HT_.out (by kernel_rfl)) (by decide) (fun K hK => ?_)
     refine goes_ Try.func38 (by kernel_rfl) rfl #[.slice Ao65 x296001_48.length co65, .slice A1_1 l1_1.length c1_1] (by rfl) rfl rfl (by (try simp only [List.map_toArray, List.map_cons, List.map_nil]); first | done | rfl | (simp only [List.length_drop, List.length_take]; rfl)) ?_
     with_reducible refine (spec_l1MulMag.calls kj48 _ _ x296001_48 _ _ l1_1 t304 _ ?side1 ?side2 ?side3 ?side4 A60.out).mono ?_
     (case side1 => repeat (first | exact (Kd.R_reads' HO_296001.out).2.2 | (with_reducible refine Kd.C_alloc ?_ _) | (with_reducible refine Kd.C_drewN ?_ _) | (with_reducible refine Kd.C_drew ?_)))
     (case side2 => exact (Kd.R_reads' HO_296001.out).2.1)
     (case side3 => repeat (first | exact (Kd.C_below HR1_1.out HB.out) | (with_reducible refine Kd.C_alloc ?_ _) | (with_reducible refine Kd.C_drewN ?_ _) | (with_reducible refine Kd.C_drew ?_)))
     (case side4 => exact HC1_1.out)
     rintro e w66 ⟨v305, rfl, ho0, hb⟩
     refine ⟨_, rfl, ?_⟩
     have n0_ := Aside0.mk (Kd.R_elder' (by (with_reducible repeat (first | apply Kd.R_alloc | apply Kd.R_drewN | apply Kd.R_drew)); exact HO_296001.out) (Kd.R_base ho0) hb)
     have n1_ := Aside0.mk (Kd.R_lower (Kd.R_new' ho0 (Kd.R_lt (by (with_reducible repeat (first | apply Kd.R_alloc | apply Kd.R_drewN | apply Kd.R_drew)); exact HO_296001.out))) (below_size (by repeat (first | (with_reducible first | exact HB.out | apply below_alloc | apply pw_below_drewN | apply below_drew1 | refine below_set ?_ GE281.out | refine below_set ?_ GE282.out | refine below_set ?_ GE283.out | refine below_set ?_ GE284.out | refine below_set ?_ GE295.out) | exact HB.out))))
     have n2_ := Aside0.mk (blk_below (g := gb281) (o := .cells #[.bool a0_0, .slice A0_1 l0_1.length c0_1] 36 (0, 0)) (by (with_reducible repeat (first | refine blk_drewN ?_ _ | refine blk_drew ?_ | refine blk_alloc ?_ _)); exact BK281.out) hb)
     have n3_ := Aside0.mk (blk_below (g := gb282) (o := .cells #[.bool a1_0, .slice A1_1 l1_1.length c1_1] 36 (0, 0)) (by (with_reducible repeat (first | refine blk_drewN ?_ _ | refine blk_drew ?_ | refine blk_alloc ?_ _)); exact BK282.out) hb)
     have n4_ := Aside0.mk (blk_below (g := gb283) (o := .cells #[.bool false, .slice none 0 0] 36 (0, 0)) (by (with_reducible repeat (first | refine blk_drewN ?_ _ | refine blk_drew ?_ | refine blk_alloc ?_ _)); exact BK283.out) hb)
     have n5_ := Aside0.mk (blk_below (g := gb284) (o := .cells #[.bool false, .slice none 0 0] 36 (0, 0)) (by (with_reducible repeat (first | refine blk_drewN ?_ _ | refine blk_drew ?_ | refine blk_alloc ?_ _)); exact BK284.out) hb)
     have n6_ := Aside0.mk (blk_below (g := gb295) (o := .cells #[.bool x296000_48, .slice Ao65 x296001_48.length co65] 36 (0, 0)) (by (with_reducible repeat (first | refine blk_drewN ?_ _ | refine blk_drew ?_ | refine blk_alloc ?_ _)); exact BK295.out) hb)
     have n7_ := Aside0.mk (below_step (by repeat (first | (with_reducible first | exact HB.out | apply below_alloc | apply pw_below_drewN | apply below_drew1 | refine below_set ?_ GE281.out | refine below_set ?_ GE282.out | refine below_set ?_ GE283.out | refine below_set ?_ GE284.out | refine below_set ?_ GE295.out) | exact HB.out)) hb)
     clear HO_296001
     clear BK281
     clear BK282
     clear BK283
     clear BK284
     clear BK295
     clear HB
     have HO_296001 := n0_
     have HO306 := n1_
     have BK281 := n2_
     have BK282 := n3_
     have BK283 := n4_
     have BK284 := n5_
     have BK295 := n6_
     have HB := n7_
     clear n0_ n1_ n2_ n3_ n4_ n5_ n6_ n7_
     (try clear hb)
     (try clear hb2)
     (try clear hk)
     (try clear hi)
     (try clear ho0)
     obtain ⟨Ao67, co67, eo67⟩ := Kd.R_slice HO306.out
     (first | subst eo67 | (injection eo67 with f1_ f2_ f3_; have f4_ := f1_.symm; have f5_ := f3_.symm; clear f1_ f2_ f3_; subst f4_; subst f5_))
     refine hK.out _ _ ⟨(blk_cell BK295.out 0).trans rfl, (blk_cell BK295.out 1).trans rfl, (blk_cell BK281.out 0).trans rfl, (blk_cell BK281.out 1).trans rfl, (blk_cell BK282.out 0).trans rfl, (blk_cell BK282.out 1).trans rfl⟩ (fun hHeld => ?_)
     clear hK K
     refine norm_ (a' := ?_) ?_ ?_
     rotate_left
     ·show Act.put _ (some 48) _ = _
      simp only [Act.put, List.setIfInBounds_toArray, List.set_cons_zero, List.set_cons_succ, i64_w, i32_w]
      rfl
     refine one_ (i := 12) (N := some 49) #[true, true, true, true, true, true, true, true, true, true, true, true, true, false, false, false, false] rfl rfl (one_of HT_.out (by kernel_rfl)) (by decide) (fun K hK => ?_)
     refine goes_ Try.func32 (by kernel_rfl) rfl #[.bool (x296000_48 != a1_0), .slice Ao67 t304.length co67] (by rfl) rfl rfl (by (try simp only [List.map_toArray, List.map_cons, List.map_nil]); first | done | rfl | (simp only [List.length_drop, List.length_take]; rfl)) ?_
     with_reducible refine (spec_l1Big.calls kj48 (x296000_48 != a1_0) _ _ t304 t307 t308 _ ?side1 ?side2 A61.out).mono ?_
     (case side1 => repeat (first | exact (Kd.R_reads' HO306.out).2.2 | (with_reducible refine Kd.C_alloc ?_ _) | (with_reducible refine Kd.C_drewN ?_ _) | (with_reducible refine Kd.C_drew ?_)))
     (case side2 => exact (Kd.R_reads' HO306.out).2.1)
     rintro e w68 ⟨v309, rfl, ho0, hb⟩
     refine ⟨_, rfl, ?_⟩
     have n0_ := Aside0.mk (Kd.R_elder' (by (with_reducible repeat (first | apply Kd.R_alloc | apply Kd.R_drewN | apply Kd.R_drew)); exact HO_296001.out) (Kd.R_base ho0) hb)
     have n1_ := Aside0.mk (Kd.R_elder' (by (with_reducible repeat (first | apply Kd.R_alloc | apply Kd.R_drewN | apply Kd.R_drew)); exact HO306.out) (Kd.R_base ho0) hb)
     have n2_ := Aside0.mk (Kd.R_lower (Kd.R_new' (Kd.R_new' ho0 (Kd.R_lt (by (with_reducible repeat (first | apply Kd.R_alloc | apply Kd.R_drewN | apply Kd.R_drew)); exact HO_296001.out))) (Kd.R_lt (by (with_reducible repeat (first | apply Kd.R_alloc | apply Kd.R_drewN | apply Kd.R_drew)); exact HO306.out))) (below_size (by repeat (first | (with_reducible first | exact HB.out | apply below_alloc | apply pw_below_drewN | apply below_drew1 | refine below_set ?_ GE281.out | refine below_set ?_ GE282.out | refine below_set ?_ GE283.out | refine below_set ?_ GE284.out | refine below_set ?_ GE295.out) | exact HB.out))))
     have n3_ := Aside0.mk (blk_below (g := gb281) (o := .cells #[.bool a0_0, .slice A0_1 l0_1.length c0_1] 36 (0, 0)) (by (with_reducible repeat (first | refine blk_drewN ?_ _ | refine blk_drew ?_ | refine blk_alloc ?_ _)); exact BK281.out) hb)
     have n4_ := Aside0.mk (blk_below (g := gb282) (o := .cells #[.bool a1_0, .slice A1_1 l1_1.length c1_1] 36 (0, 0)) (by (with_reducible repeat (first | refine blk_drewN ?_ _ | refine blk_drew ?_ | refine blk_alloc ?_ _)); exact BK282.out) hb)
     have n5_ := Aside0.mk (blk_below (g := gb283) (o := .cells #[.bool false, .slice none 0 0] 36 (0, 0)) (by (with_reducible repeat (first | refine blk_drewN ?_ _ | refine blk_drew ?_ | refine blk_alloc ?_ _)); exact BK283.out) hb)
     have n6_ := Aside0.mk (blk_below (g := gb284) (o := .cells #[.bool false, .slice none 0 0] 36 (0, 0)) (by (with_reducible repeat (first | refine blk_drewN ?_ _ | refine blk_drew ?_ | refine blk_alloc ?_ _)); exact BK284.out) hb)
     have n7_ := Aside0.mk (blk_below (g := gb295) (o := .cells #[.bool x296000_48, .slice Ao65 x296001_48.length co65] 36 (0, 0)) (by (with_reducible repeat (first | refine blk_drewN ?_ _ | refine blk_drew ?_ | refine blk_alloc ?_ _)); exact BK295.out) hb)
     have n8_ := Aside0.mk (below_step (by repeat (first | (with_reducible first | exact HB.out | apply below_alloc | apply pw_below_drewN | apply below_drew1 | refine below_set ?_ GE281.out | refine below_set ?_ GE282.out | refine below_set ?_ GE283.out | refine below_set ?_ GE284.out | refine below_set ?_ GE295.out) | exact HB.out)) hb)
     clear HO_296001
     clear HO306
     clear BK281
     clear BK282
     clear BK283
     clear BK284
     clear BK295
     clear HB
     have HO_296001 := n0_
     have HO306 := n1_
     have HO310 := n2_
     have BK281 := n3_
     have BK282 := n4_
     have BK283 := n5_
     have BK284 := n6_
     have BK295 := n7_
     have HB := n8_
     clear n0_ n1_ n2_ n3_ n4_ n5_ n6_ n7_ n8_
     (try clear hb)
     (try clear hb2)
     (try clear hk)
     (try clear hi)
     (try clear ho0)
     obtain ⟨Ao69, co69, eo69⟩ := Kd.R_slice HO310.out
     (first | subst eo69 | (injection eo69 with f1_ f2_ f3_; have f4_ := f1_.symm; have f5_ := f3_.symm; clear f1_ f2_ f3_; subst f4_; subst f5_))
     refine hK.out _ _ ⟨(blk_cell BK295.out 0).trans rfl, (blk_cell BK295.out 1).trans rfl, (blk_cell BK281.out 0).trans rfl, (blk_cell BK281.out 1).trans rfl, (blk_cell BK282.out 0).trans rfl, (blk_cell BK282.out 1).trans rfl⟩ (fun hHeld => ?_)
     clear hK K
     refine norm_ (a' := ?_) ?_ ?_
     rotate_left
     ·show Act.put _ (some 49) _ = _
      simp only [Act.put, List.setIfInBounds_toArray, List.set_cons_zero, List.set_cons_succ, i64_w, i32_w]
      rfl
     refine one_ (i := 13) (N := some 50) #[true, true, true, true, true, true, true, true, true, true, true, true, true, true, false, false, false] rfl rfl (one_of HT_.out (by kernel_rfl)) (by decide) (fun K hK => ?_)
     refine goes_ Try.func31 (by kernel_rfl) rfl #[.agg #[.bool t307, .slice Ao69 t308.length co69]] (by rfl) rfl rfl (by (try simp only [List.map_toArray, List.map_cons, List.map_nil]); first | done | rfl | (simp only [List.length_drop, List.length_take]; rfl)) ?_
     with_reducible refine (spec_l1Minus.calls kj48 t307 _ _ t308 t311 t312 _ ?side1 ?side2 A62.out).mono ?_
     (case side1 => repeat (first | exact (Kd.R_reads' HO310.out).2.2 | (with_reducible refine Kd.C_alloc ?_ _) | (with_reducible refine Kd.C_drewN ?_ _) | (with_reducible refine Kd.C_drew ?_)))
     (case side2 => exact (Kd.R_reads' HO310.out).2.1)
     rintro e w70 ⟨v313, rfl, ho0, hb⟩
     refine ⟨_, rfl, ?_⟩
     have n0_ := Aside0.mk (Kd.R_elder' (by (with_reducible repeat (first | apply Kd.R_alloc | apply Kd.R_drewN | apply Kd.R_drew)); exact HO_296001.out) (Kd.R_base ho0) hb)
     have n1_ := Aside0.mk (Kd.R_elder' (by (with_reducible repeat (first | apply Kd.R_alloc | apply Kd.R_drewN | apply Kd.R_drew)); exact HO306.out) (Kd.R_base ho0) hb)
     have n2_ := Aside0.mk (Kd.R_elder' (by (with_reducible repeat (first | apply Kd.R_alloc | apply Kd.R_drewN | apply Kd.R_drew)); exact HO310.out) (Kd.R_base ho0) hb)
     have n3_ := Aside0.mk (Kd.R_lower (Kd.R_new' (Kd.R_new' (Kd.R_new' ho0 (Kd.R_lt (by (with_reducible repeat (first | apply Kd.R_alloc | apply Kd.R_drewN | apply Kd.R_drew)); exact HO_296001.out))) (Kd.R_lt (by (with_reducible repeat (first | apply Kd.R_alloc | apply Kd.R_drewN | apply Kd.R_drew)); exact HO306.out))) (Kd.R_lt (by (with_reducible repeat (first | apply Kd.R_alloc | apply Kd.R_drewN | apply Kd.R_drew)); exact HO310.out))) (below_size (by repeat (first | (with_reducible first | exact HB.out | apply below_alloc | apply pw_below_drewN | apply below_drew1 | refine below_set ?_ GE281.out | refine below_set ?_ GE282.out | refine below_set ?_ GE283.out | refine below_set ?_ GE284.out | refine below_set ?_ GE295.out) | exact HB.out))))
     have n4_ := Aside0.mk (blk_below (g := gb281) (o := .cells #[.bool a0_0, .slice A0_1 l0_1.length c0_1] 36 (0, 0)) (by (with_reducible repeat (first | refine blk_drewN ?_ _ | refine blk_drew ?_ | refine blk_alloc ?_ _)); exact BK281.out) hb)
     have n5_ := Aside0.mk (blk_below (g := gb282) (o := .cells #[.bool a1_0, .slice A1_1 l1_1.length c1_1] 36 (0, 0)) (by (with_reducible repeat (first | refine blk_drewN ?_ _ | refine blk_drew ?_ | refine blk_alloc ?_ _)); exact BK282.out) hb)
     have n6_ := Aside0.mk (blk_below (g := gb283) (o := .cells #[.bool false, .slice none 0 0] 36 (0, 0)) (by (with_reducible repeat (first | refine blk_drewN ?_ _ | refine blk_drew ?_ | refine blk_alloc ?_ _)); exact BK283.out) hb)
     have n7_ := Aside0.mk (blk_below (g := gb284) (o := .cells #[.bool false, .slice none 0 0] 36 (0, 0)) (by (with_reducible repeat (first | refine blk_drewN ?_ _ | refine blk_drew ?_ | refine blk_alloc ?_ _)); exact BK284.out) hb)
     have n8_ := Aside0.mk (blk_below (g := gb295) (o := .cells #[.bool x296000_48, .slice Ao65 x296001_48.length co65] 36 (0, 0)) (by (with_reducible repeat (first | refine blk_drewN ?_ _ | refine blk_drew ?_ | refine blk_alloc ?_ _)); exact BK295.out) hb)
     have n9_ := Aside0.mk (below_step (by repeat (first | (with_reducible first | exact HB.out | apply below_alloc | apply pw_below_drewN | apply below_drew1 | refine below_set ?_ GE281.out | refine below_set ?_ GE282.out | refine below_set ?_ GE283.out | refine below_set ?_ GE284.out | refine below_set ?_ GE295.out) | exact HB.out)) hb)
     clear HO_296001
     clear HO306
     clear HO310
     clear BK281
     clear BK282
     clear BK283
     clear BK284
     clear BK295
     clear HB
     have HO_296001 := n0_
     have HO306 := n1_
     have HO310 := n2_
     have HO314 := n3_
     have BK281 := n4_
     have BK282 := n5_
     have BK283 := n6_
     have BK284 := n7_
     have BK295 := n8_
     have HB := n9_
     clear n0_ n1_ n2_ n3_ n4_ n5_ n6_ n7_ n8_ n9_
     (try clear hb)
     (try clear hb2)
     (try clear hk)
     (try clear hi)
     (try clear ho0)
     obtain ⟨Ao71, co71, eo71⟩ := Kd.R_slice HO314.out
     (first | subst eo71 | (injection eo71 with f1_ f2_ f3_; have f4_ := f1_.symm; have f5_ := f3_.symm; clear f1_ f2_ f3_; subst f4_; subst f5_))
     refine hK.out _ _ ⟨(blk_cell BK295.out 0).trans rfl, (blk_cell BK295.out 1).trans rfl, (blk_cell BK281.out 0).trans rfl, (blk_cell BK281.out 1).trans rfl, (blk_cell BK282.out 0).trans rfl, (blk_cell BK282.out 1).trans rfl⟩ (fun hHeld => ?_)
     clear hK K
     refine norm_ (a' := ?_) ?_ ?_
     rotate_left
     ·show Act.put _ (some 50) _ = _
      simp only [Act.put, List.setIfInBounds_toArray, List.set_cons_zero, List.set_cons_succ, i64_w, i32_w]
      rfl
     refine one_ (i := 14) (N := some 51) #[true, true, true, true, true, true, true, true, true, true, true, true, true, true, true, false, false] rfl rfl (one_of HT_.out (by kernel_rfl)) (by decide) (fun K hK => ?_)
     refine goes_ Try.func30 (by kernel_rfl) rfl #[.agg #[.bool a0_0, .slice A0_1 l0_1.length c0_1], .agg #[.bool t311, .slice Ao71 t312.length co71]] (by rfl) rfl rfl (by (try simp only [List.map_toArray, List.map_cons, List.map_nil]); first | done | rfl | (simp only [List.length_drop, List.length_take]; rfl)) ?_
     with_reducible refine (spec_l1Sum.calls kj48 a0_0 _ _ l0_1 t311 _ _ t312 t315 t316 _ ?side1 ?side2 ?side3 ?side4 A63.out).mono ?_
     (case side1 => repeat (first | exact (Kd.C_below HR0_1.out HB.out) | (with_reducible refine Kd.C_alloc ?_ _) | (with_reducible refine Kd.C_drewN ?_ _) | (with_reducible refine Kd.C_drew ?_)))
     (case side2 => exact HC0_1.out)
     (case side3 => repeat (first | exact (Kd.R_reads' HO314.out).2.2 | (with_reducible refine Kd.C_alloc ?_ _) | (with_reducible refine Kd.C_drewN ?_ _) | (with_reducible refine Kd.C_drew ?_)))
     (case side4 => exact (Kd.R_reads' HO314.out).2.1)
     rintro e w72 ⟨v317, rfl, ho0, hb⟩
     refine ⟨_, rfl, ?_⟩
     have n0_ := Aside0.mk (Kd.R_elder' (by (with_reducible repeat (first | apply Kd.R_alloc | apply Kd.R_drewN | apply Kd.R_drew)); exact HO_296001.out) (Kd.R_base ho0) hb)
     have n1_ := Aside0.mk (Kd.R_elder' (by (with_reducible repeat (first | apply Kd.R_alloc | apply Kd.R_drewN | apply Kd.R_drew)); exact HO306.out) (Kd.R_base ho0) hb)
     have n2_ := Aside0.mk (Kd.R_elder' (by (with_reducible repeat (first | apply Kd.R_alloc | apply Kd.R_drewN | apply Kd.R_drew)); exact HO310.out) (Kd.R_base ho0) hb)
     have n3_ := Aside0.mk (Kd.R_elder' (by (with_reducible repeat (first | apply Kd.R_alloc | apply Kd.R_drewN | apply Kd.R_drew)); exact HO314.out) (Kd.R_base ho0) hb)
     have n4_ := Aside0.mk (Kd.R_lower (Kd.R_new' (Kd.R_new' (Kd.R_new' (Kd.R_new' ho0 (Kd.R_lt (by (with_reducible repeat (first | apply Kd.R_alloc | apply Kd.R_drewN | apply Kd.R_drew)); exact HO_296001.out))) (Kd.R_lt (by (with_reducible repeat (first | apply Kd.R_alloc | apply Kd.R_drewN | apply Kd.R_drew)); exact HO306.out))) (Kd.R_lt (by (with_reducible repeat (first | apply Kd.R_alloc | apply Kd.R_drewN | apply Kd.R_drew)); exact HO310.out))) (Kd.R_lt (by (with_reducible repeat (first | apply Kd.R_alloc | apply Kd.R_drewN | apply Kd.R_drew)); exact HO314.out))) (below_size (by repeat (first | (with_reducible first | exact HB.out | apply below_alloc | apply pw_below_drewN | apply below_drew1 | refine below_set ?_ GE281.out | refine below_set ?_ GE282.out | refine below_set ?_ GE283.out | refine below_set ?_ GE284.out | refine below_set ?_ GE295.out) | exact HB.out))))
     have n5_ := Aside0.mk (blk_below (g := gb281) (o := .cells #[.bool a0_0, .slice A0_1 l0_1.length c0_1] 36 (0, 0)) (by (with_reducible repeat (first | refine blk_drewN ?_ _ | refine blk_drew ?_ | refine blk_alloc ?_ _)); exact BK281.out) hb)
     have n6_ := Aside0.mk (blk_below (g := gb282) (o := .cells #[.bool a1_0, .slice A1_1 l1_1.length c1_1] 36 (0, 0)) (by (with_reducible repeat (first | refine blk_drewN ?_ _ | refine blk_drew ?_ | refine blk_alloc ?_ _)); exact BK282.out) hb)
     have n7_ := Aside0.mk (blk_below (g := gb283) (o := .cells #[.bool false, .slice none 0 0] 36 (0, 0)) (by (with_reducible repeat (first | refine blk_drewN ?_ _ | refine blk_drew ?_ | refine blk_alloc ?_ _)); exact BK283.out) hb)
     have n8_ := Aside0.mk (blk_below (g := gb284) (o := .cells #[.bool false, .slice none 0 0] 36 (0, 0)) (by (with_reducible repeat (first | refine blk_drewN ?_ _ | refine blk_drew ?_ | refine blk_alloc ?_ _)); exact BK284.out) hb)
     have n9_ := Aside0.mk (blk_below (g := gb295) (o := .cells #[.bool x296000_48, .slice Ao65 x296001_48.length co65] 36 (0, 0)) (by (with_reducible repeat (first | refine blk_drewN ?_ _ | refine blk_drew ?_ | refine blk_alloc ?_ _)); exact BK295.out) hb)
     have n10_ := Aside0.mk (below_step (by repeat (first | (with_reducible first | exact HB.out | apply below_alloc | apply pw_below_drewN | apply below_drew1 | refine below_set ?_ GE281.out | refine below_set ?_ GE282.out | refine below_set ?_ GE283.out | refine below_set ?_ GE284.out | refine below_set ?_ GE295.out) | exact HB.out)) hb)
     clear HO_296001
     clear HO306
     clear HO310
     clear HO314
     clear BK281
     clear BK282
     clear BK283
     clear BK284
     clear BK295
     clear HB
     have HO_296001 := n0_
     have HO306 := n1_
     have HO310 := n2_
     have HO314 := n3_
     have HO318 := n4_
     have BK281 := n5_
     have BK282 := n6_
     have BK283 := n7_
     have BK284 := n8_
     have BK295 := n9_
     have HB := n10_
     clear n0_ n1_ n2_ n3_ n4_ n5_ n6_ n7_ n8_ n9_ n10_
     (try clear hb)
     (try clear hb2)
     (try clear hk)
     (try clear hi)
     (try clear ho0)
     obtain ⟨Ao76, co76, eo76⟩ := Kd.R_slice HO318.out
     (first | subst eo76 | (injection eo76 with f1_ f2_ f3_; have f4_ := f1_.symm; have f5_ := f3_.symm; clear f1_ f2_ f3_; subst f4_; subst f5_))
     refine hK.out _ _ ⟨(blk_cell BK295.out 0).trans rfl, (blk_cell BK295.out 1).trans rfl, (blk_cell BK281.out 0).trans rfl, (blk_cell BK281.out 1).trans rfl, (blk_cell BK282.out 0).trans rfl, (blk_cell BK282.out 1).trans rfl⟩ (fun hHeld => ?_)
     clear hK K
     refine norm_ (a' := ?_) ?_ ?_
     rotate_left
     ·show Act.put _ (some 51) _ = _
      simp only [Act.put, List.setIfInBounds_toArray, List.set_cons_zero, List.set_cons_succ, i64_w, i32_w]
      rfl
     refine one_ (i := 15) (N := none) #[true, true, true, true, true, true, true, true, true, true, true, true, true, true, true, true, false] rfl rfl (one_of HT_.out (by kernel_rfl)) (by decide) (fun K hK => ?_)
     have hs73 : w72.cell? ⟨gb283, 0, none⟩ = some (.bool false) := (blk_cell BK283.out 0).trans rfl
     have hfs73 := blk_frozen BK283.out 0
     have hns73_0 := NB281_283.out
     have hns73_1 := NB282_283.out
     have hns73_3 := NB284_283.out
     have hns73_4 := NB295_283.out
     have hms73_0 := NB283_281.out
     have hms73_1 := NB283_282.out
     have hms73_3 := NB283_284.out
     have hms73_4 := NB283_295.out
     have hs74 : w72.cell? ⟨gb283, 1, none⟩ = some (.slice none 0 0) := (blk_cell BK283.out 1).trans rfl
     have hfs74 := blk_frozen BK283.out 1
     have hns74_0 := NB281_283.out
     have hns74_1 := NB282_283.out
     have hns74_3 := NB284_283.out
     have hns74_4 := NB295_283.out
     have hms74_0 := NB283_281.out
     have hms74_1 := NB283_282.out
     have hms74_3 := NB283_284.out
     have hms74_4 := NB283_295.out
     refine skip_ (w1 := ?_) (by rfl) rfl ?_ ?_
     rotate_left
     ·go_simp
      rfl
     refine hK.out _ _ ⟨((cell_far (p := ⟨gb283, _, none⟩) NB295_283.out _).trans (((cell_far (p := ⟨gb283, _, none⟩) NB295_283.out _).trans (hHeld.1)))), ((cell_far (p := ⟨gb283, _, none⟩) NB295_283.out _).trans (((cell_far (p := ⟨gb283, _, none⟩) NB295_283.out _).trans (hHeld.2.1)))), ((cell_far (p := ⟨gb283, _, none⟩) NB281_283.out _).trans (((cell_far (p := ⟨gb283, _, none⟩) NB281_283.out _).trans (hHeld.2.2.1)))), ((cell_far (p := ⟨gb283, _, none⟩) NB281_283.out _).trans (((cell_far (p := ⟨gb283, _, none⟩) NB281_283.out _).trans (hHeld.2.2.2.1)))), ((cell_far (p := ⟨gb283, _, none⟩) NB282_283.out _).trans (((cell_far (p := ⟨gb283, _, none⟩) NB282_283.out _).trans (hHeld.2.2.2.2.1)))), ((cell_far (p := ⟨gb283, _, none⟩) NB282_283.out _).trans (((cell_far (p := ⟨gb283, _, none⟩) NB282_283.out _).trans (hHeld.2.2.2.2.2))))⟩ (fun hHeld => ?_)
     clear hK K
     refine one_ (i := 16) (N := none) #[true, true, true, true, true, true, true, true, true, true, true, true, true, true, true, true, true] rfl rfl (one_of HT_.out (by kernel_rfl)) (by decide) (fun K hK => ?_)
     have hs75 : w72.cell? ⟨gb284, 0, none⟩ = some (.bool false) := (blk_cell BK284.out 0).trans rfl
     have hfs75 := blk_frozen BK284.out 0
     have hns75_0 := NB281_284.out
     have hns75_1 := NB282_284.out
     have hns75_2 := NB283_284.out
     have hns75_4 := NB295_284.out
     have hms75_0 := NB284_281.out
     have hms75_1 := NB284_282.out
     have hms75_2 := NB284_283.out
     have hms75_4 := NB284_295.out
     have hs77 : w72.cell? ⟨gb284, 1, none⟩ = some (.slice none 0 0) := (blk_cell BK284.out 1).trans rfl
     have hfs77 := blk_frozen BK284.out 1
     have hns77_0 := NB281_284.out
     have hns77_1 := NB282_284.out
     have hns77_2 := NB283_284.out
     have hns77_4 := NB295_284.out
     have hms77_0 := NB284_281.out
     have hms77_1 := NB284_282.out
     have hms77_2 := NB284_283.out
     have hms77_4 := NB284_295.out
     refine skip_ (w1 := ?_) (by rfl) rfl ?_ ?_
     rotate_left
     ·go_simp
      rfl
     refine hK.out _ _ ⟨((cell_far (p := ⟨gb284, _, none⟩) NB295_284.out _).trans (((cell_far (p := ⟨gb284, _, none⟩) NB295_284.out _).trans (hHeld.1)))), ((cell_far (p := ⟨gb284, _, none⟩) NB295_284.out _).trans (((cell_far (p := ⟨gb284, _, none⟩) NB295_284.out _).trans (hHeld.2.1)))), ((cell_far (p := ⟨gb284, _, none⟩) NB281_284.out _).trans (((cell_far (p := ⟨gb284, _, none⟩) NB281_284.out _).trans (hHeld.2.2.1)))), ((cell_far (p := ⟨gb284, _, none⟩) NB281_284.out _).trans (((cell_far (p := ⟨gb284, _, none⟩) NB281_284.out _).trans (hHeld.2.2.2.1)))), ((cell_far (p := ⟨gb284, _, none⟩) NB282_284.out _).trans (((cell_far (p := ⟨gb284, _, none⟩) NB282_284.out _).trans (hHeld.2.2.2.2.1)))), ((cell_far (p := ⟨gb284, _, none⟩) NB282_284.out _).trans (((cell_far (p := ⟨gb284, _, none⟩) NB282_284.out _).trans (hHeld.2.2.2.2.2))))⟩ (fun hHeld => ?_)
     clear hK K
     refine done_ (done_of HT_.out (by kernel_rfl)) ?_
     try go_wp2
     refine bodyPost_ret (results_cc rfl _ _ gb283 gb284 36 36 #[.bool x296000_48, .slice Ao65 x296001_48.length co65] #[.bool t315, .slice Ao76 t316.length co76] (0, 0) (0, 0) _ _ rfl (by (with_reducible repeat (first | refine blk_drewN ?_ _ | refine blk_drew ?_ | refine blk_alloc ?_ _)); refine blk_far ?_ NB283_284.out _; (with_reducible repeat (first | refine blk_drewN ?_ _ | refine blk_drew ?_ | refine blk_alloc ?_ _)); refine blk_far ?_ NB283_284.out _; (with_reducible repeat (first | refine blk_drewN ?_ _ | refine blk_drew ?_ | refine blk_alloc ?_ _)); refine blk_put (cs := #[.bool x296000_48, .slice none 0 0]) ?_ 1 _ rfl; (with_reducible repeat (first | refine blk_drewN ?_ _ | refine blk_drew ?_ | refine blk_alloc ?_ _)); refine blk_put (cs := #[.bool false, .slice none 0 0]) ?_ 0 _ rfl; (with_reducible repeat (first | refine blk_drewN ?_ _ | refine blk_drew ?_ | refine blk_alloc ?_ _)); exact BK283.out) Try.underlying36 rfl (by kernel_rfl) rfl (by (with_reducible repeat (first | refine blk_drewN ?_ _ | refine blk_drew ?_ | refine blk_alloc ?_ _)); refine blk_put (cs := #[.bool t315, .slice none 0 0]) ?_ 1 _ rfl; (with_reducible repeat (first | refine blk_drewN ?_ _ | refine blk_drew ?_ | refine blk_alloc ?_ _)); refine blk_put (cs := #[.bool false, .slice none 0 0]) ?_ 0 _ rfl; (with_reducible repeat (first | refine blk_drewN ?_ _ | refine blk_drew ?_ | refine blk_alloc ?_ _)); refine blk_far ?_ NB284_283.out _; (with_reducible repeat (first | refine blk_drewN ?_ _ | refine blk_drew ?_ | refine blk_alloc ?_ _)); refine blk_far ?_ NB284_283.out _; (with_reducible repeat (first | refine blk_drewN ?_ _ | refine blk_drew ?_ | refine blk_alloc ?_ _)); exact BK284.out) Try.underlying36 rfl (by kernel_rfl)) rfl ?_
     exact ⟨_, _, by first | rfl | (simp [errW_none, errW_some] <;> rfl) | (simp [*, errW_none, errW_some] <;> rfl), by (with_reducible repeat (first | apply Kd.R_alloc | apply Kd.R_drewN | apply Kd.R_drew)); exact Kd.R_mono (Kd.R_far (p := ⟨gb284, 1, none⟩) (Kd.R_far (p := ⟨gb284, 0, none⟩) (Kd.R_far (p := ⟨gb283, 1, none⟩) (Kd.R_far (p := ⟨gb283, 0, none⟩) (Kd.R_types (Kd.R_types HO_296001.out BK283.out (by decide)) BK284.out (by decide)) (fun _ hk => hk.1.2) (.bool x296000_48)) (fun _ hk => hk.1.2) (.slice Ao65 x296001_48.length co65)) (fun _ hk => hk.2) (.bool t315)) (fun _ hk => hk.2) (.slice Ao76 t316.length co76)) (fun _ hk => hk.1.1.2), by (with_reducible repeat (first | apply Kd.R_alloc | apply Kd.R_drewN | apply Kd.R_drew)); exact Kd.R_mono (Kd.R_far (p := ⟨gb284, 1, none⟩) (Kd.R_far (p := ⟨gb284, 0, none⟩) (Kd.R_far (p := ⟨gb283, 1, none⟩) (Kd.R_far (p := ⟨gb283, 0, none⟩) (Kd.R_types (Kd.R_types HO318.out BK283.out (by decide)) BK284.out (by decide)) (fun _ hk => hk.1.2) (.bool x296000_48)) (fun _ hk => hk.1.2) (.slice Ao65 x296001_48.length co65)) (fun _ hk => hk.2) (.bool t315)) (fun _ hk => hk.2) (.slice Ao76 t316.length co76)) (fun _ hk => hk.1.1.1.1.1.2), by repeat (first | (with_reducible first | exact HB.out | apply below_alloc | apply pw_below_drewN | apply below_drew1 | refine below_set ?_ GE281.out | refine below_set ?_ GE282.out | refine below_set ?_ GE283.out | refine below_set ?_ GE284.out | refine below_set ?_ GE295.out) | exact HB.out)⟩

end Go.Proofs.Ytghjbadanhplnaa.PF
