/- Go functions as Lean functions, and that each Go function comes to just that; printed by a program of this session (gprint.py over the kit's print.py). No condition. -/
import Derived.Test.YtohilfkdfcihgaaPDix0
import Derived.Test.YtohilfkdfcihgaaPDix9
import Derived.Test.YtohilfkdfcihgaaPDix3
namespace Go.Proofs.Ytohilfkdfcihgaa.PDi
open Go.RowKit Go.Proofs.YtohilfkdfcihgaaW.PrintWords Go.Proofs.YtohilfkdfcihgaaW.PrintLast Go.Proofs.YtohilfkdfcihgaaW.PrintMore
attribute [local go_sem] max2_int min2_int max_two min_two max_three min_three max_four min_four   -- for this text's walks alone
set_option linter.unusedVariables false
set_option linter.unusedSimpArgs false

-- GIVEN: function 18 (impl_DictRun)

theorem qdr1_1 {P Q0 Q1 Q2 : Prop} (y0 : Q0) (y1 : Q1) (y2 : Q2) (h : Q0 → Q1 → Q2 → P := by intro y0_ y1_ y2_; repeat (first | (with_reducible first | exact y0_.out | apply below_alloc | apply pw_below_drewN | apply below_drew1 | refine below_set ?_ y1_.out | refine below_set ?_ y2_.out) | exact y0_.out)) : P := h y0 y1 y2
theorem qdr1_2 {P Q0 : Prop} (y0 : Q0) (h : Q0 → P := by intro y0_; (with_reducible repeat (first | refine blk_drewN ?_ _ | refine blk_drew ?_ | refine blk_alloc ?_ _)); exact y0_.out) : P := h y0
theorem qdr1_3 {P Q0 : Prop} (y0 : Q0) (h : Q0 → P := by intro y0_; (with_reducible repeat (first | apply Kd.R_alloc | apply Kd.R_drewN | apply Kd.R_drew)); exact y0_.out) : P := h y0
theorem qdr1_4 {P Q0 Q1 : Prop} (y0 : Q0) (y1 : Q1) (h : Q0 → Q1 → P := by intro y0_ y1_; repeat (first | (with_reducible first | exact y0_.out | apply below_alloc | apply pw_below_drewN | apply below_drew1 | refine below_set ?_ y1_.out) | exact y0_.out)) : P := h y0 y1
theorem qdr1_5 {P Q0 : Prop} (y0 : Q0) (h : Q0 → P := by intro y0_; repeat (first | (with_reducible first | exact y0_.out | apply below_alloc | apply pw_below_drewN | apply below_drew1) | exact y0_.out)) : P := h y0
theorem qdr1_6 {P : Prop} (h : P := by first | (go_simp; done) | (go_simp; rfl)) : P := h
/-! ### laws_szDictOpS: function 25 -/
def laws_szDictOpS.f (l0 : List (S86)) (a1 : Int) : Option (Int) := if (wrap64 (a1 - (l0.length : Int))) < 0 then (some (-1)) else (some (wrap64 (a1 - (l0.length : Int))))
set_option maxHeartbeats 8000000 in
set_option maxRecDepth 100000 in
theorem laws_szDictOpS.calls (A0 : Option Addr) (c0 : Nat) (l0 : List (S86)) (a1 : Int) (r : Int) (w : World) (hr0 : Kd.C k86 w A0 l0.length l0) (hc0 : l0.length ≤ c0) (h : laws_szDictOpS.f l0 a1 = some r) :
  Calls Try.prog 25 #[.slice A0 l0.length c0, .int .i64 a1] w fun e w' => e = .returned (.int .i64 r) ∧ Drawn0 w w' := by
 have HR0 := Aside0.mk hr0
 have HC0 := Aside0.mk hc0
 clear hr0 hc0
 have H : (if (wrap64 (a1 - (l0.length : Int))) < 0 then (some (-1)) else (some (wrap64 (a1 - (l0.length : Int))))) = some r := h
 clear h
 by_cases c3 : (wrap64 (a1 - (l0.length : Int))) < 0
 ·rw [if_pos c3] at H
  have c3b0 : decide ((wrap64 (a1 - (l0.length : Int))) < 0) = true := decide_eq_true c3
  clear c3
  obtain rfl := Option.some.inj H
  go_enter Try.func25, Try.ntmps25
  go_wp2
  go_ret
  exact ⟨by first | rfl | (simp; done) | (simp [*]; done), by repeat (first | exact Drawn0.refl _ | apply Drawn0.step)⟩
 ·rw [if_neg c3] at H
  have c3b0 : decide ((wrap64 (a1 - (l0.length : Int))) < 0) = false := decide_eq_false c3
  clear c3
  obtain rfl := Option.some.inj H
  go_enter Try.func25, Try.ntmps25
  go_wp2
  go_ret
  exact ⟨by first | rfl | (simp; done) | (simp [*]; done), by repeat (first | exact Drawn0.refl _ | apply Drawn0.step)⟩

-- GIVEN: function 39 (spec_l7Table)

/-! ### spec_NewDict: function 11 -/
def spec_NewDict.f (k : Nat)  : Option (List Int × (List (S62)) × Int) := (spec_l7Table.f k (([] : List (S62))) 8).bind fun t105 => (some (t105, (([] : List (S62))), 0))
theorem spec_NewDict.mono : ∀ k, LeO (spec_NewDict.f k ) (spec_NewDict.f (k + 1) ) := by
 intro  k
 unfold spec_NewDict.f
 repeat' first
   | (with_reducible exact spec_l7Table.mono _ _ _)
   | (with_reducible exact LeO.refl _)
   | (with_reducible exact LeO.none _)
   | (with_reducible refine LeO.ite ?_ ?_)
   | (with_reducible refine LeO.bind ?_ (fun _ => ?_))
   | exact spec_l7Table.mono _ _ _
   | exact LeO.none _
   | refine LeO.ite ?_ ?_
   | refine LeO.bind ?_ (fun _ => ?_)
set_option maxHeartbeats 8000000 in
set_option maxRecDepth 100000 in
theorem spec_NewDict.calls (k : Nat)  (r1 : List Int) (r2 : List (S62)) (r3 : Int) (w : World) (h : spec_NewDict.f k  = some (r1, r2, r3)) :
  Calls Try.prog 11 #[] w fun e w' => ∃ v0_ v1_ : Value, e = .returned (.agg #[v0_, v1_, .int .i64 r3]) ∧ Kd.R (Kd.int .i64) 2 w' w.heap.size (fun _ => True) v0_ r1 ∧ Kd.R k62 62 w' w.heap.size (fun _ => True) v1_ r2 ∧ Below w.heap.size w w' := by
 have hu25 := Try.underlying25
 have HB := Aside0.mk (Below.refl w.heap.size w)
 have H : ((spec_l7Table.f k (([] : List (S62))) 8).bind fun t105 => (some (t105, (([] : List (S62))), 0))) = some (r1, r2, r3) := h
 clear h
 obtain ⟨y102, hy102⟩ : ∃ y_ : List (S62), y_ = (([] : List (S62))) := ⟨_, rfl⟩
 replace H : ((spec_l7Table.f k y102 8).bind fun t105 => (some (t105, (([] : List (S62))), 0))) = some (r1, r2, r3) := by first | (rw [hy102]; with_reducible exact H) | (have H2_ := (Option.bind_some _ _).symm.trans H; rw [hy102]; with_reducible exact H2_) | (have H2_ := (Option.bind_some _ _).symm.trans H; with_reducible exact H2_) | with_reducible exact H | (rw [hy102]; exact H) | exact H
 have Ny102 := Aside0.mk hy102
 clear hy102
 replace H := Option.bind_eq_some_iff.mp H
 obtain ⟨t105, A10, H⟩ := H
 replace H : (some (t105, (([] : List (S62))), 0)) = some (r1, r2, r3) := H
 have A1 := Aside0.mk A10
 clear A10
 obtain ⟨y108, hy108⟩ : ∃ y_ : List (S62), y_ = (([] : List (S62))) := ⟨_, rfl⟩
 replace H : (some (t105, y108, 0)) = some (r1, r2, r3) := by first | (rw [hy108]; with_reducible exact H) | (have H2_ := (Option.bind_some _ _).symm.trans H; rw [hy108]; with_reducible exact H2_) | (have H2_ := (Option.bind_some _ _).symm.trans H; with_reducible exact H2_) | with_reducible exact H | (rw [hy108]; exact H) | exact H
 have Ny108 := Aside0.mk hy108
 clear hy108
 simp only [Option.some.injEq, Prod.mk.injEq] at H
 obtain ⟨rfl, rfl, rfl⟩ := H
 go_enter Try.func11, Try.ntmps11
 go_wp2_with (first | ((with_reducible refine gate_dst (N := 0) rfl ?_); refine box_event ?hg (N := 0) ?hd (cs := #[.slice none 0 0, .slice none 0 0, .int .i64 0]) (t := 25) ?hr ?_; (case hd => rfl); (case hg => rfl); (case hr => exact qdr1_6); intro gb101 hg w2 hbox hb; have n0_ := Aside0.mk (below_step (qdr1_5 HB) hb); have n1_ := Aside0.mk (hbox); have n2_ := Aside0.mk ((by rw [hg]; exact (below_size (qdr1_5 HB)) : w.heap.size ≤ gb101)); have n3_ := Aside0.mk ((by rw [hg]; exact (below_size (qdr1_5 HB)) : w.heap.size ≤ gb101)); clear HB; have HB := n0_; have BK101 := n1_; have GW101 := n2_; have GE101 := n3_; clear n0_ n1_ n2_ n3_; clear hb hbox hg) | ((with_reducible refine gate_dst (N := 1) rfl ?_); refine Kd.R_lit k62 _ 62 ?hg (N := 1) ?hd (xs := ([] : List (S62))) (inner := []) (ok := fun _ => True) (okp := fun _ => True) ?hr ?hp (fun _ hk => hk) trivial (Below.refl _ _) (Nat.le_refl _) (by simp) ?_; (case hd => rfl); (case hg => rfl); (case hr => exact qdr1_6); (case hp => exact (Reps.none _ _)); intro v103 w3 ho4 hb hg_ hnew_; clear hg_ hnew_; (first | rw [← Ny102.out] at ho4 | (simp only [Int.reduceToNat] at ho4; rw [← Ny102.out] at ho4)); have n0_ := Aside0.mk (Kd.R_lower ho4 (below_size (qdr1_4 HB GE101))); have n1_ := Aside0.mk (blk_below (g := gb101) (o := .cells #[.slice none 0 0, .slice none 0 0, .int .i64 0] 25 (0, 0)) (qdr1_2 BK101) hb); have n2_ := Aside0.mk (below_step (qdr1_4 HB GE101) hb); clear BK101; clear HB; have HO104 := n0_; have BK101 := n1_; have HB := n2_; clear n0_ n1_ n2_; clear hb ho4; obtain ⟨Ao5, co5, eo5⟩ := Kd.R_slice HO104.out; subst eo5) | ((with_reducible refine gate_callee (f := 39) rfl ?_); refine goesL_ (some 2) rfl rfl Try.func39 (by kernel_rfl) rfl #[.slice Ao5 y102.length co5, .int .i64 8] rfl (by (try simp only [List.map_toArray, List.map_cons, List.map_nil]); first | done | rfl | (simp only [List.length_drop, List.length_take]; rfl)) ?_; (with_reducible refine (spec_l7Table.calls k _ _ y102 8 t105 _ ?side1 ?side2 A1.out).mono ?_); (case side1 => exact (by repeat (first | exact (Kd.R_reads' HO104.out).2.2 | (with_reducible refine Kd.C_alloc ?_ _) | (with_reducible refine Kd.C_drewN ?_ _) | (with_reducible refine Kd.C_drew ?_)))); (case side2 => exact (Kd.R_reads' HO104.out).2.1); rintro e w6 ⟨v106, rfl, ho0, hb⟩; refine ⟨_, rfl, ?_⟩; have n0_ := Aside0.mk (Kd.R_below (qdr1_3 HO104) hb); have n1_ := Aside0.mk (Kd.R_lower ho0 (below_size (qdr1_4 HB GE101))); have n2_ := Aside0.mk (blk_below (g := gb101) (o := .cells #[.slice none 0 0, .slice none 0 0, .int .i64 0] 25 (0, 0)) (qdr1_2 BK101) hb); have n3_ := Aside0.mk (below_step (qdr1_4 HB GE101) hb); clear HO104; clear BK101; clear HB; have HO104 := n0_; have HO107 := n1_; have BK101 := n2_; have HB := n3_; clear n0_ n1_ n2_ n3_; (try clear hb); (try clear hb2); (try clear hk); (try clear hi); (try clear ho0)) | ((with_reducible refine gate_dst (N := 3) rfl ?_); refine Kd.R_lit k62 _ 62 ?hg (N := 3) ?hd (xs := ([] : List (S62))) (inner := []) (ok := fun _ => True) (okp := fun _ => True) ?hr ?hp (fun _ hk => hk) trivial (Below.refl _ _) (Nat.le_refl _) (by simp) ?_; (case hd => rfl); (case hg => rfl); (case hr => exact qdr1_6); (case hp => exact (Reps.none _ _)); intro v109 w7 ho8 hb hg_ hnew_; clear hg_ hnew_; (first | rw [← Ny108.out] at ho8 | (simp only [Int.reduceToNat] at ho8; rw [← Ny108.out] at ho8)); have n0_ := Aside0.mk (Kd.R_elder' (qdr1_3 HO104) (Kd.R_base ho8) hb); have n1_ := Aside0.mk (Kd.R_below (qdr1_3 HO107) hb); have n2_ := Aside0.mk (Kd.R_lower (Kd.R_new' ho8 (Kd.R_lt (qdr1_3 HO104))) (below_size (qdr1_4 HB GE101))); have n3_ := Aside0.mk (blk_below (g := gb101) (o := .cells #[.slice none 0 0, .slice none 0 0, .int .i64 0] 25 (0, 0)) (qdr1_2 BK101) hb); have n4_ := Aside0.mk (below_step (qdr1_4 HB GE101) hb); clear HO104; clear HO107; clear BK101; clear HB; have HO104 := n0_; have HO107 := n1_; have HO110 := n2_; have BK101 := n3_; have HB := n4_; clear n0_ n1_ n2_ n3_ n4_; clear hb ho8; obtain ⟨Ao9, co9, eo9⟩ := Kd.R_slice HO110.out; subst eo9; obtain ⟨Ao10, co10, eo10⟩ := Kd.R_slice HO107.out; subst eo10; have hcz11_0 : w7.cell? ⟨gb101, 0, none⟩ = some (.slice none 0 0) := (blk_cell BK101.out 0).trans rfl; have hcz11_1 : w7.cell? ⟨gb101, 1, none⟩ = some (.slice none 0 0) := (blk_cell BK101.out 1).trans rfl; have hcz11_2 : w7.cell? ⟨gb101, 2, none⟩ = some (.int .i64 0) := (blk_cell BK101.out 2).trans rfl; have hfz11_0 := blk_frozen BK101.out 0; have hfz11_1 := blk_frozen BK101.out 1; have hfz11_2 := blk_frozen BK101.out 2))
 refine bodyPost_ret (results_cell_row rfl _ _ gb101 25 #[.slice Ao10 t105.length co10, .slice Ao9 y108.length co9, .int .i64 0] (0, 0) _ rfl (by (with_reducible repeat (first | refine blk_drewN ?_ _ | refine blk_drew ?_ | refine blk_alloc ?_ _)); refine blk_put (cs := #[.slice Ao10 t105.length co10, .slice Ao9 y108.length co9, .int .i64 0]) ?_ 2 _ rfl; (with_reducible repeat (first | refine blk_drewN ?_ _ | refine blk_drew ?_ | refine blk_alloc ?_ _)); refine blk_put (cs := #[.slice Ao10 t105.length co10, .slice none 0 0, .int .i64 0]) ?_ 1 _ rfl; (with_reducible repeat (first | refine blk_drewN ?_ _ | refine blk_drew ?_ | refine blk_alloc ?_ _)); refine blk_put (cs := #[.slice none 0 0, .slice none 0 0, .int .i64 0]) ?_ 0 _ rfl; (with_reducible repeat (first | refine blk_drewN ?_ _ | refine blk_drew ?_ | refine blk_alloc ?_ _)); exact BK101.out) Try.underlying25 rfl (by kernel_rfl)) rfl ?_
 exact ⟨_, _, by first | rfl | (simp [errW_none, errW_some] <;> rfl) | (simp [*, errW_none, errW_some] <;> rfl), by (with_reducible repeat (first | apply Kd.R_alloc | apply Kd.R_drewN | apply Kd.R_drew)); exact Kd.R_mono (Kd.R_far (p := ⟨gb101, 2, none⟩) (Kd.R_far (p := ⟨gb101, 1, none⟩) (Kd.R_far (p := ⟨gb101, 0, none⟩) (Kd.R_types HO107.out BK101.out (by decide)) (fun _ hk => hk.2) (.slice Ao10 t105.length co10)) (fun _ hk => hk.2) (.slice Ao9 y108.length co9)) (fun _ hk => hk.2) (.int .i64 0)) (fun _ hk => trivial), by (with_reducible repeat (first | apply Kd.R_alloc | apply Kd.R_drewN | apply Kd.R_drew)); exact Kd.R_mono (Kd.R_far (p := ⟨gb101, 2, none⟩) (Kd.R_far (p := ⟨gb101, 1, none⟩) (Kd.R_far (p := ⟨gb101, 0, none⟩) (Kd.R_types HO110.out BK101.out (by decide)) (fun _ hk => hk.2) (.slice Ao10 t105.length co10)) (fun _ hk => hk.2) (.slice Ao9 y108.length co9)) (fun _ hk => hk.2) (.int .i64 0)) (fun _ hk => trivial), by repeat (first | (with_reducible first | exact HB.out | apply below_alloc | apply pw_below_drewN | apply below_drew1 | refine below_set ?_ GE101.out) | exact HB.out)⟩

-- GIVEN: function 55 (spec_l7Find)

/-! ### spec_l7Copy: function 74 -/
def spec_l7Copy.f (l0_0 : List Int) (l0_1 : List (S62)) (a0_2 : Int) : Option (List Int × (List (S62)) × Int) := (some (([] : List Int) : List Int)).bind fun y113 => (if y113.length + l0_0.length < 17592186044416 then ((some (([] : List (S62)) : List (S62))).bind fun y119 => (if y119.length + l0_1.length < 4398046511104 then (some ((y113 ++ l0_0), (y119 ++ l0_1), a0_2)) else (none))) else (none))
def spec_l7Copy.T1 : Bool × List (List Nat × List Nat) := (true, [([], []), ([], []), ([1], [1]), ([0, 2], [0, 2]), ([], []), ([], []), ([5], [5]), ([4, 6, 3], [4, 6]), ([], []), ([8], [8]), ([3, 7, 9], [3, 7, 9]), ([10, 7, 0, 1, 2, 3, 4, 5, 6, 7, 8, 9, 10], [10])])
def spec_l7Copy.B1 : List Nat := [0, 0, 2, 7, 0, 0, 32, 127, 0, 256, 1023, 2047]
theorem spec_l7Copy.tab1 : rtab .any (opsOf Try.f74 1) = spec_l7Copy.T1 := by kernel_rfl
theorem spec_l7Copy.bits1 : waitsOk spec_l7Copy.T1.2 spec_l7Copy.B1 = true := by kernel_rfl
set_option maxHeartbeats 8000000 in
set_option maxRecDepth 100000 in
theorem spec_l7Copy.calls (A0_0 : Option Addr) (c0_0 : Nat) (l0_0 : List Int) (A0_1 : Option Addr) (c0_1 : Nat) (l0_1 : List (S62)) (a0_2 : Int) (r1 : List Int) (r2 : List (S62)) (r3 : Int) (w : World) (hr0_0 : Kd.C (Kd.int .i64) w A0_0 l0_0.length l0_0) (hc0_0 : l0_0.length ≤ c0_0) (hr0_1 : Kd.C k62 w A0_1 l0_1.length l0_1) (hc0_1 : l0_1.length ≤ c0_1) (h : spec_l7Copy.f l0_0 l0_1 a0_2 = some (r1, r2, r3)) :
  Calls Try.prog 74 #[.agg #[.slice A0_0 l0_0.length c0_0, .slice A0_1 l0_1.length c0_1, .int .i64 a0_2]] w fun e w' => ∃ v0_ v1_ : Value, e = .returned (.agg #[v0_, v1_, .int .i64 r3]) ∧ Kd.R (Kd.int .i64) 2 w' w.heap.size (fun _ => True) v0_ r1 ∧ Kd.R k62 62 w' w.heap.size (fun _ => True) v1_ r2 ∧ Below w.heap.size w w' := by
 have hu25 := Try.underlying25
 have HR0_0 := Aside0.mk hr0_0
 have HC0_0 := Aside0.mk hc0_0
 clear hr0_0 hc0_0
 have HR0_1 := Aside0.mk hr0_1
 have HC0_1 := Aside0.mk hc0_1
 clear hr0_1 hc0_1
 have HB := Aside0.mk (Below.refl w.heap.size w)
 have H : ((some (([] : List Int) : List Int)).bind fun y113 => (if y113.length + l0_0.length < 17592186044416 then ((some (([] : List (S62)) : List (S62))).bind fun y119 => (if y119.length + l0_1.length < 4398046511104 then (some ((y113 ++ l0_0), (y119 ++ l0_1), a0_2)) else (none))) else (none))) = some (r1, r2, r3) := h
 clear h
 obtain ⟨y113, hy113⟩ : ∃ y_ : List Int, y_ = (([] : List Int)) := ⟨_, rfl⟩
 replace H : (if y113.length + l0_0.length < 17592186044416 then ((some (([] : List (S62)) : List (S62))).bind fun y119 => (if y119.length + l0_1.length < 4398046511104 then (some ((y113 ++ l0_0), (y119 ++ l0_1), a0_2)) else (none))) else (none)) = some (r1, r2, r3) := by first | (rw [hy113]; with_reducible exact H) | (have H2_ := (Option.bind_some _ _).symm.trans H; rw [hy113]; with_reducible exact H2_) | (have H2_ := (Option.bind_some _ _).symm.trans H; with_reducible exact H2_) | with_reducible exact H | (rw [hy113]; exact H) | exact H
 have Ny113 := Aside0.mk hy113
 clear hy113
 by_cases c2 : y113.length + l0_0.length < 17592186044416
 ·rw [if_pos c2] at H
  have LMc2 := Aside0.mk c2
  clear c2
  obtain ⟨y116, hy116⟩ : ∃ y_ : List Int, y_ = (y113 ++ l0_0) := ⟨_, rfl⟩
  replace H : ((some (([] : List (S62)) : List (S62))).bind fun y119 => (if y119.length + l0_1.length < 4398046511104 then (some (y116, (y119 ++ l0_1), a0_2)) else (none))) = some (r1, r2, r3) := by first | (rw [hy116]; with_reducible exact H) | (have H2_ := (Option.bind_some _ _).symm.trans H; rw [hy116]; with_reducible exact H2_) | (have H2_ := (Option.bind_some _ _).symm.trans H; with_reducible exact H2_) | with_reducible exact H | (rw [hy116]; exact H) | exact H
  have Ny116 := Aside0.mk hy116
  clear hy116
  obtain ⟨y119, hy119⟩ : ∃ y_ : List (S62), y_ = (([] : List (S62))) := ⟨_, rfl⟩
  replace H : (if y119.length + l0_1.length < 4398046511104 then (some (y116, (y119 ++ l0_1), a0_2)) else (none)) = some (r1, r2, r3) := by first | (rw [hy119]; with_reducible exact H) | (have H2_ := (Option.bind_some _ _).symm.trans H; rw [hy119]; with_reducible exact H2_) | (have H2_ := (Option.bind_some _ _).symm.trans H; with_reducible exact H2_) | with_reducible exact H | (rw [hy119]; exact H) | exact H
  have Ny119 := Aside0.mk hy119
  clear hy119
  by_cases c3 : y119.length + l0_1.length < 4398046511104
  ·rw [if_pos c3] at H
   have LMc3 := Aside0.mk c3
   clear c3
   obtain ⟨y122, hy122⟩ : ∃ y_ : List (S62), y_ = (y119 ++ l0_1) := ⟨_, rfl⟩
   replace H : (some (y116, y122, a0_2)) = some (r1, r2, r3) := by first | (rw [hy122]; with_reducible exact H) | (have H2_ := (Option.bind_some _ _).symm.trans H; rw [hy122]; with_reducible exact H2_) | (have H2_ := (Option.bind_some _ _).symm.trans H; with_reducible exact H2_) | with_reducible exact H | (rw [hy122]; exact H) | exact H
   have Ny122 := Aside0.mk hy122
   clear hy122
   simp only [Option.some.injEq, Prod.mk.injEq] at H
   obtain ⟨rfl, rfl, rfl⟩ := H
   go_enter Try.func74, Try.ntmps74
   try go_wp2_with (first | ((with_reducible refine gate_dst (N := 1) rfl ?_); refine box_event ?hg (N := 1) ?hd (cs := #[.slice A0_0 l0_0.length c0_0, .slice A0_1 l0_1.length c0_1, .int .i64 a0_2]) (t := 25) ?hr ?_; (case hd => rfl); (case hg => rfl); (case hr => exact qdr1_6); intro gb111 hg w4 hbox hb; have n0_ := Aside0.mk (below_step (qdr1_5 HB) hb); have n1_ := Aside0.mk (hbox); have n2_ := Aside0.mk ((by rw [hg]; exact (below_size (qdr1_5 HB)) : w.heap.size ≤ gb111)); have n3_ := Aside0.mk ((by rw [hg]; exact (below_size (qdr1_5 HB)) : w.heap.size ≤ gb111)); clear HB; have HB := n0_; have BK111 := n1_; have GW111 := n2_; have GE111 := n3_; clear n0_ n1_ n2_ n3_; clear hb hbox hg) | ((with_reducible refine gate_dst (N := 2) rfl ?_); refine box_event ?hg (N := 2) ?hd (cs := #[.slice none 0 0, .slice none 0 0, .int .i64 0]) (t := 25) ?hr ?_; (case hd => rfl); (case hg => rfl); (case hr => exact qdr1_6); intro gb112 hg w5 hbox hb; have n0_ := Aside0.mk (blk_below (g := gb111) (o := .cells #[.slice A0_0 l0_0.length c0_0, .slice A0_1 l0_1.length c0_1, .int .i64 a0_2] 25 (0, 0)) (qdr1_2 BK111) hb); have n1_ := Aside0.mk (below_step (qdr1_4 HB GE111) hb); have n2_ := Aside0.mk (hbox); have n3_ := Aside0.mk ((by rw [hg]; exact (below_size (qdr1_4 HB GE111)) : w.heap.size ≤ gb112)); have n4_ := Aside0.mk ((by rw [hg]; exact (below_size (qdr1_4 HB GE111)) : w.heap.size ≤ gb112)); have n5_ := Aside0.mk ((by rw [hg]; exact Nat.ne_of_lt (blk_lt (g := gb111) (o := .cells #[.slice A0_0 l0_0.length c0_0, .slice A0_1 l0_1.length c0_1, .int .i64 a0_2] 25 (0, 0)) (qdr1_2 BK111)) : gb111 ≠ gb112)); have n6_ := Aside0.mk ((by rw [hg]; exact Nat.ne_of_gt (blk_lt (g := gb111) (o := .cells #[.slice A0_0 l0_0.length c0_0, .slice A0_1 l0_1.length c0_1, .int .i64 a0_2] 25 (0, 0)) (qdr1_2 BK111)) : gb112 ≠ gb111)); clear BK111; clear HB; have BK111 := n0_; have HB := n1_; have BK112 := n2_; have GW112 := n3_; have GE112 := n4_; have NB111_112 := n5_; have NB112_111 := n6_; clear n0_ n1_ n2_ n3_ n4_ n5_ n6_; clear hb hbox hg))
   have n0_ := Aside0.mk (blk_drew BK111.out)
   have n1_ := Aside0.mk (blk_drew BK112.out)
   have n2_ := Aside0.mk (below_drew1 HB.out)
   clear BK111
   clear BK112
   clear HB
   have BK111 := n0_
   have BK112 := n1_
   have HB := n2_
   clear n0_ n1_ n2_
   refine start_ (n := 12) (S := fun w' => w'.cell? ⟨gb111, 0, none⟩ = some (.slice A0_0 l0_0.length c0_0) ∧ w'.cell? ⟨gb111, 1, none⟩ = some (.slice A0_1 l0_1.length c0_1) ∧ w'.cell? ⟨gb111, 2, none⟩ = some (.int .i64 a0_2)) (ds := []) #[false, false, false, false, false, false, false, false, false, false, false, false] (by kernel_rfl) rfl rfl ⟨(blk_cell BK111.out 0).trans rfl, (blk_cell BK111.out 1).trans rfl, (blk_cell BK111.out 2).trans rfl⟩ (fun hHeld => ?_); refine with_tabW spec_l7Copy.tab1 spec_l7Copy.bits1 (fun HT_ HW_ => ?_)
   generalize w5.drew = w6 at BK111 BK112 HB hHeld ⊢
   refine pure_ (i := 1) (N := some 4) (v := ?_) (a' := ?_) #[false, true, false, false, false, false, false, false, false, false, false, false] rfl rfl (any_of HT_.out (by kernel_rfl)) (fun _ _ _ h => h) (Or.inl ⟨by rfl, ?_⟩) ?_ ?_
   rotate_left
   ·intro w'
    go_simp
    with_reducible rfl
   rotate_left
   ·simp only [Act.put, List.setIfInBounds_toArray, List.set_cons_zero, List.set_cons_succ, i64_w, i32_w]
    rfl
   refine pure_ (i := 5) (N := some 8) (v := ?_) (a' := ?_) #[false, true, false, false, false, true, false, false, false, false, false, false] rfl rfl (any_of HT_.out (by kernel_rfl)) (fun _ _ _ h => h) (Or.inl ⟨by rfl, ?_⟩) ?_ ?_
   rotate_left
   ·intro w'
    go_simp
    with_reducible rfl
   rotate_left
   ·simp only [Act.put, List.setIfInBounds_toArray, List.set_cons_zero, List.set_cons_succ, i64_w, i32_w]
    rfl
   refine pure_ (i := 8) (N := some 11) (v := ?_) (a' := ?_) #[false, true, false, false, false, true, false, false, true, false, false, false] rfl rfl (any_of HT_.out (by kernel_rfl)) (fun _ _ _ h => h) (Or.inl ⟨by rfl, ?_⟩) ?_ ?_
   rotate_left
   ·intro w'
    go_simp
    with_reducible rfl
   rotate_left
   ·simp only [Act.put, List.setIfInBounds_toArray, List.set_cons_zero, List.set_cons_succ, i64_w, i32_w]
    rfl
   refine take_ (i := 2) (N := some 5) (v := ?_) (a' := ?_) #[false, true, true, false, false, true, false, false, true, false, false, false] rfl rfl (take_ofW HT_.out HW_.out (by kernel_rfl)) (fun _ _ _ h => h) (Or.inl ⟨by rfl, ?_⟩) hHeld ?_ ?_
   rotate_left
   ·rintro w' ⟨s0, s1, s2⟩
    go_simp
    with_reducible rfl
   rotate_left
   ·simp only [Act.put, List.setIfInBounds_toArray, List.set_cons_zero, List.set_cons_succ, i64_w, i32_w]
    rfl
   refine take_ (i := 6) (N := some 9) (v := ?_) (a' := ?_) #[false, true, true, false, false, true, true, false, true, false, false, false] rfl rfl (take_ofW HT_.out HW_.out (by kernel_rfl)) (fun _ _ _ h => h) (Or.inl ⟨by rfl, ?_⟩) hHeld ?_ ?_
   rotate_left
   ·rintro w' ⟨s0, s1, s2⟩
    go_simp
    with_reducible rfl
   rotate_left
   ·simp only [Act.put, List.setIfInBounds_toArray, List.set_cons_zero, List.set_cons_succ, i64_w, i32_w]
    rfl
   refine take_ (i := 9) (N := some 12) (v := ?_) (a' := ?_) #[false, true, true, false, false, true, true, false, true, true, false, false] rfl rfl (take_ofW HT_.out HW_.out (by kernel_rfl)) (fun _ _ _ h => h) (Or.inl ⟨by rfl, ?_⟩) hHeld ?_ ?_
   rotate_left
   ·rintro w' ⟨s0, s1, s2⟩
    go_simp
    with_reducible rfl
   rotate_left
   ·simp only [Act.put, List.setIfInBounds_toArray, List.set_cons_zero, List.set_cons_succ, i64_w, i32_w]
    rfl
   refine join_ (σ := Value × Value × Value) 3 #[true, true, true, true, true, true, true, false, true, true, false, false] (fun s_ => [(3, s_.1), (6, s_.2.1), (7, s_.2.2)]) (fun s_ w' => (w'.cell? ⟨gb111, 0, none⟩ = some (.slice A0_0 l0_0.length c0_0) ∧ w'.cell? ⟨gb111, 1, none⟩ = some (.slice A0_1 l0_1.length c0_1) ∧ w'.cell? ⟨gb111, 2, none⟩ = some (.int .i64 a0_2)) ∧ (Kd.R (Kd.int .i64) 2 w' w.heap.size (fun _ => True) s_.2.1 y116) ∧ (Kd.R k62 62 w' w.heap.size (fun _ => True) s_.2.2 y119) ∧ (w'.heap[gb111]? = some (.cells #[.slice A0_0 l0_0.length c0_0, .slice A0_1 l0_1.length c0_1, .int .i64 a0_2] 25 (0, 0))) ∧ (w'.heap[gb112]? = some (.cells #[.slice none 0 0, .slice none 0 0, .int .i64 0] 25 (0, 0))) ∧ (Below w.heap.size w w')) ?_ ?_
   rotate_left
   ·intro hCont
    refine two_ (i := 0) (j := 4) (Ni := some 3) (Nj := some 7) #[true, true, true, false, false, true, true, false, true, true, false, false] #[false, true, true, false, true, true, true, false, true, true, false, false] rfl rfl rfl rfl (two_of HT_.out (by kernel_rfl)) (by decide) (by decide) (fun K hK => ?_) (fun K hK => ?_)
    ·skip
     refine Kd.R_lit_step (Kd.int .i64) _ 2 ?hg (N := 3) ?hd (xs := ([] : List Int)) (inner := []) (ok := fun _ => True) (okp := fun _ => True) ?hr ?hp (fun _ hk => hk) trivial (Below.refl _ _) (Nat.le_refl _) (by simp) ?_; (case hd => rfl); (case hg => rfl); (case hr => exact qdr1_6); (case hp => exact (Reps.none _ _))
     intro v114 w7 ho8 hb hg_ hnew_
     clear hg_ hnew_
     (first | rw [← Ny113.out] at ho8 | (simp only [Int.reduceToNat] at ho8; rw [← Ny113.out] at ho8))
     have n0_ := Aside0.mk (Kd.R_lower ho8 (below_size (qdr1_1 HB GE111 GE112)))
     have n1_ := Aside0.mk (blk_below (g := gb111) (o := .cells #[.slice A0_0 l0_0.length c0_0, .slice A0_1 l0_1.length c0_1, .int .i64 a0_2] 25 (0, 0)) (qdr1_2 BK111) hb)
     have n2_ := Aside0.mk (blk_below (g := gb112) (o := .cells #[.slice none 0 0, .slice none 0 0, .int .i64 0] 25 (0, 0)) (qdr1_2 BK112) hb)
     have n3_ := Aside0.mk (below_step (qdr1_1 HB GE111 GE112) hb)
     clear BK111
     clear BK112
     clear HB
     have HO115 := n0_
     have BK111 := n1_
     have BK112 := n2_
     have HB := n3_
     clear n0_ n1_ n2_ n3_
     clear hb ho8
     refine hK.out _ _ ⟨(blk_cell BK111.out 0).trans rfl, (blk_cell BK111.out 1).trans rfl, (blk_cell BK111.out 2).trans rfl⟩ (fun hHeld => ?_)
     clear hK K
     refine norm_ (a' := ?_) ?_ ?_
     rotate_left
     ·show Act.put _ (some 3) _ = _
      simp only [Act.put, List.setIfInBounds_toArray, List.set_cons_zero, List.set_cons_succ, i64_w, i32_w]
      rfl
     refine two_ (i := 3) (j := 4) (Ni := some 6) (Nj := some 7) #[true, true, true, true, false, true, true, false, true, true, false, false] #[true, true, true, false, true, true, true, false, true, true, false, false] rfl rfl rfl rfl (two_of HT_.out (by kernel_rfl)) (by decide) (by decide) (fun K hK => ?_) (fun K hK => ?_)
     ·skip
      refine Kd.R_append_rows_step (Kd.int .i64) (w0 := w) w.heap.size (by rfl) (.tmp 3) (.tmp 5) 22 2 (.int .i64 0) 8 rfl Try.underlying22 info2 rfl (by decide) (by omega) v114 y113 l0_0 _ _ _ (fun _ => True) (fun _ => False) rfl rfl ?aO ?aR (fun _ _ h => h) (fun _ h => h.elim) ?aF ?aB ?aS ?aL ?_
      (case aR => repeat (first | exact (Kd.C_below HR0_0.out HB.out) | (with_reducible refine Kd.C_alloc ?_ _) | (with_reducible refine Kd.C_drewN ?_ _) | (with_reducible refine Kd.C_drew ?_)))
      (case aB => exact (qdr1_1 HB GE111 GE112))
      (case aF => exact (fun _ _ => trivial))
      (case aO => exact (qdr1_3 HO115))
      (case aS => exact (below_size (qdr1_1 HB GE111 GE112)))
      (case aL => have := LMc2.out; omega)
      intro v117 w9 ho hb hg hat
      rw [← Ny116.out] at ho
      have n0_ := Aside0.mk (blk_grown (g := gb111) (o := .cells #[.slice A0_0 l0_0.length c0_0, .slice A0_1 l0_1.length c0_1, .int .i64 a0_2] 25 (0, 0)) (qdr1_2 BK111) hg (Kd.R_ne HO115.out BK111.out (by decide)))
      have n1_ := Aside0.mk (blk_grown (g := gb112) (o := .cells #[.slice none 0 0, .slice none 0 0, .int .i64 0] 25 (0, 0)) (qdr1_2 BK112) hg (Kd.R_ne HO115.out BK112.out (by decide)))
      have n2_ := Aside0.mk (hb)
      have n3_ := Aside0.mk (ho)
      clear BK111
      clear BK112
      clear HB
      clear HO115
      have BK111 := n0_
      have BK112 := n1_
      have HB := n2_
      have HO118 := n3_
      clear n0_ n1_ n2_ n3_
      clear ho hb hg hat
      refine hK.out _ _ ⟨(blk_cell BK111.out 0).trans rfl, (blk_cell BK111.out 1).trans rfl, (blk_cell BK111.out 2).trans rfl⟩ (fun hHeld => ?_)
      clear hK K
      refine norm_ (a' := ?_) ?_ ?_
      rotate_left
      ·show Act.put _ (some 6) _ = _
       simp only [Act.put, List.setIfInBounds_toArray, List.set_cons_zero, List.set_cons_succ, i64_w, i32_w]
       rfl
      refine one_ (i := 4) (N := some 7) #[true, true, true, true, true, true, true, false, true, true, false, false] rfl rfl (one_of HT_.out (by kernel_rfl)) (by decide) (fun K hK => ?_)
      refine Kd.R_lit_step k62 _ 62 ?hg (N := 7) ?hd (xs := ([] : List (S62))) (inner := []) (ok := fun _ => True) (okp := fun _ => True) ?hr ?hp (fun _ hk => hk) trivial (Below.refl _ _) (Nat.le_refl _) (by simp) ?_; (case hd => rfl); (case hg => rfl); (case hr => exact qdr1_6); (case hp => exact (Reps.none _ _))
      intro v120 w10 ho11 hb hg_ hnew_
      clear hg_ hnew_
      (first | rw [← Ny119.out] at ho11 | (simp only [Int.reduceToNat] at ho11; rw [← Ny119.out] at ho11))
      have n0_ := Aside0.mk (Kd.R_below (qdr1_3 HO118) hb)
      have n1_ := Aside0.mk (Kd.R_lower ho11 (below_size (qdr1_1 HB GE111 GE112)))
      have n2_ := Aside0.mk (blk_below (g := gb111) (o := .cells #[.slice A0_0 l0_0.length c0_0, .slice A0_1 l0_1.length c0_1, .int .i64 a0_2] 25 (0, 0)) (qdr1_2 BK111) hb)
      have n3_ := Aside0.mk (blk_below (g := gb112) (o := .cells #[.slice none 0 0, .slice none 0 0, .int .i64 0] 25 (0, 0)) (qdr1_2 BK112) hb)
      have n4_ := Aside0.mk (below_step (qdr1_1 HB GE111 GE112) hb)
      clear HO118
      clear BK111
      clear BK112
      clear HB
      have HO118 := n0_
      have HO121 := n1_
      have BK111 := n2_
      have BK112 := n3_
      have HB := n4_
      clear n0_ n1_ n2_ n3_ n4_
      clear hb ho11
      refine hK.out _ _ ⟨(blk_cell BK111.out 0).trans rfl, (blk_cell BK111.out 1).trans rfl, (blk_cell BK111.out 2).trans rfl⟩ (fun hHeld => ?_)
      clear hK K
      refine norm_ (a' := ?_) ?_ ?_
      rotate_left
      ·show Act.put _ (some 7) _ = _
       simp only [Act.put, List.setIfInBounds_toArray, List.set_cons_zero, List.set_cons_succ, i64_w, i32_w]
       rfl
      exact norm_ (by simp only [putAll, Act.put, List.setIfInBounds_toArray, List.set_cons_zero, List.set_cons_succ]) (hCont (v114, v117, v120) _ ⟨hHeld, (qdr1_3 HO118), (qdr1_3 HO121), (qdr1_2 BK111), (qdr1_2 BK112), (qdr1_1 HB GE111 GE112)⟩)
     ·skip
      refine Kd.R_lit_step k62 _ 62 ?hg (N := 7) ?hd (xs := ([] : List (S62))) (inner := []) (ok := fun _ => True) (okp := fun _ => True) ?hr ?hp (fun _ hk => hk) trivial (Below.refl _ _) (Nat.le_refl _) (by simp) ?_; (case hd => rfl); (case hg => rfl); (case hr => exact qdr1_6); (case hp => exact (Reps.none _ _))
      intro v120 w9 ho10 hb hg_ hnew_
      clear hg_ hnew_
      (first | rw [← Ny119.out] at ho10 | (simp only [Int.reduceToNat] at ho10; rw [← Ny119.out] at ho10))
      have n0_ := Aside0.mk (Kd.R_below (qdr1_3 HO115) hb)
      have n1_ := Aside0.mk (Kd.R_lower ho10 (below_size (qdr1_1 HB GE111 GE112)))
      have n2_ := Aside0.mk (blk_below (g := gb111) (o := .cells #[.slice A0_0 l0_0.length c0_0, .slice A0_1 l0_1.length c0_1, .int .i64 a0_2] 25 (0, 0)) (qdr1_2 BK111) hb)
      have n3_ := Aside0.mk (blk_below (g := gb112) (o := .cells #[.slice none 0 0, .slice none 0 0, .int .i64 0] 25 (0, 0)) (qdr1_2 BK112) hb)
      have n4_ := Aside0.mk (below_step (qdr1_1 HB GE111 GE112) hb)
      clear HO115
      clear BK111
      clear BK112
      clear HB
      have HO115 := n0_
      have HO121 := n1_
      have BK111 := n2_
      have BK112 := n3_
      have HB := n4_
      clear n0_ n1_ n2_ n3_ n4_
      clear hb ho10
      refine hK.out _ _ ⟨(blk_cell BK111.out 0).trans rfl, (blk_cell BK111.out 1).trans rfl, (blk_cell BK111.out 2).trans rfl⟩ (fun hHeld => ?_)
      clear hK K
      refine norm_ (a' := ?_) ?_ ?_
      rotate_left
      ·show Act.put _ (some 7) _ = _
       simp only [Act.put, List.setIfInBounds_toArray, List.set_cons_zero, List.set_cons_succ, i64_w, i32_w]
       rfl
      refine one_ (i := 3) (N := some 6) #[true, true, true, true, true, true, true, false, true, true, false, false] rfl rfl (one_of HT_.out (by kernel_rfl)) (by decide) (fun K hK => ?_)
      refine Kd.R_append_rows_step (Kd.int .i64) (w0 := w) w.heap.size (by rfl) (.tmp 3) (.tmp 5) 22 2 (.int .i64 0) 8 rfl Try.underlying22 info2 rfl (by decide) (by omega) v114 y113 l0_0 _ _ _ (fun _ => True) (fun _ => False) rfl rfl ?aO ?aR (fun _ _ h => h) (fun _ h => h.elim) ?aF ?aB ?aS ?aL ?_
      (case aR => repeat (first | exact (Kd.C_below HR0_0.out HB.out) | (with_reducible refine Kd.C_alloc ?_ _) | (with_reducible refine Kd.C_drewN ?_ _) | (with_reducible refine Kd.C_drew ?_)))
      (case aB => exact (qdr1_1 HB GE111 GE112))
      (case aF => exact (fun _ _ => trivial))
      (case aO => exact (qdr1_3 HO115))
      (case aS => exact (below_size (qdr1_1 HB GE111 GE112)))
      (case aL => have := LMc2.out; omega)
      intro v117 w11 ho hb hg hat
      rw [← Ny116.out] at ho
      have n0_ := Aside0.mk (blk_grown (g := gb111) (o := .cells #[.slice A0_0 l0_0.length c0_0, .slice A0_1 l0_1.length c0_1, .int .i64 a0_2] 25 (0, 0)) (qdr1_2 BK111) hg (Kd.R_ne HO115.out BK111.out (by decide)))
      have n1_ := Aside0.mk (blk_grown (g := gb112) (o := .cells #[.slice none 0 0, .slice none 0 0, .int .i64 0] 25 (0, 0)) (qdr1_2 BK112) hg (Kd.R_ne HO115.out BK112.out (by decide)))
      have n2_ := Aside0.mk (Kd.R_over' (qdr1_3 HO121) (Kd.R_typed (qdr1_3 HO115)) (by decide) hg)
      have n3_ := Aside0.mk (hb)
      have n4_ := Aside0.mk (ho)
      clear BK111
      clear BK112
      clear HO121
      clear HB
      clear HO115
      have BK111 := n0_
      have BK112 := n1_
      have HO121 := n2_
      have HB := n3_
      have HO118 := n4_
      clear n0_ n1_ n2_ n3_ n4_
      clear ho hb hg hat
      refine hK.out _ _ ⟨(blk_cell BK111.out 0).trans rfl, (blk_cell BK111.out 1).trans rfl, (blk_cell BK111.out 2).trans rfl⟩ (fun hHeld => ?_)
      clear hK K
      refine norm_ (a' := ?_) ?_ ?_
      rotate_left
      ·show Act.put _ (some 6) _ = _
       simp only [Act.put, List.setIfInBounds_toArray, List.set_cons_zero, List.set_cons_succ, i64_w, i32_w]
       rfl
      exact norm_ (by simp only [putAll, Act.put, List.setIfInBounds_toArray, List.set_cons_zero, List.set_cons_succ]) (hCont (v114, v117, v120) _ ⟨hHeld, (qdr1_3 HO118), (qdr1_3 HO121), (qdr1_2 BK111), (qdr1_2 BK112), (qdr1_1 HB GE111 GE112)⟩)
    ·skip
     refine Kd.R_lit_step k62 _ 62 ?hg (N := 7) ?hd (xs := ([] : List (S62))) (inner := []) (ok := fun _ => True) (okp := fun _ => True) ?hr ?hp (fun _ hk => hk) trivial (Below.refl _ _) (Nat.le_refl _) (by simp) ?_; (case hd => rfl); (case hg => rfl); (case hr => exact qdr1_6); (case hp => exact (Reps.none _ _))
     intro v120 w7 ho8 hb hg_ hnew_
     clear hg_ hnew_
     (first | rw [← Ny119.out] at ho8 | (simp only [Int.reduceToNat] at ho8; rw [← Ny119.out] at ho8))
     have n0_ := Aside0.mk (Kd.R_lower ho8 (below_size (qdr1_1 HB GE111 GE112)))
     have n1_ := Aside0.mk (blk_below (g := gb111) (o := .cells #[.slice A0_0 l0_0.length c0_0, .slice A0_1 l0_1.length c0_1, .int .i64 a0_2] 25 (0, 0)) (qdr1_2 BK111) hb)
     have n2_ := Aside0.mk (blk_below (g := gb112) (o := .cells #[.slice none 0 0, .slice none 0 0, .int .i64 0] 25 (0, 0)) (qdr1_2 BK112) hb)
     have n3_ := Aside0.mk (below_step (qdr1_1 HB GE111 GE112) hb)
     clear BK111
     clear BK112
     clear HB
     have HO121 := n0_
     have BK111 := n1_
     have BK112 := n2_
     have HB := n3_
     clear n0_ n1_ n2_ n3_
     clear hb ho8
     refine hK.out _ _ ⟨(blk_cell BK111.out 0).trans rfl, (blk_cell BK111.out 1).trans rfl, (blk_cell BK111.out 2).trans rfl⟩ (fun hHeld => ?_)
     clear hK K
     refine norm_ (a' := ?_) ?_ ?_
     rotate_left
     ·show Act.put _ (some 7) _ = _
      simp only [Act.put, List.setIfInBounds_toArray, List.set_cons_zero, List.set_cons_succ, i64_w, i32_w]
      rfl
     refine one_ (i := 0) (N := some 3) #[true, true, true, false, true, true, true, false, true, true, false, false] rfl rfl (one_of HT_.out (by kernel_rfl)) (by decide) (fun K hK => ?_)
     refine Kd.R_lit_step (Kd.int .i64) _ 2 ?hg (N := 3) ?hd (xs := ([] : List Int)) (inner := []) (ok := fun _ => True) (okp := fun _ => True) ?hr ?hp (fun _ hk => hk) trivial (Below.refl _ _) (Nat.le_refl _) (by simp) ?_; (case hd => rfl); (case hg => rfl); (case hr => exact qdr1_6); (case hp => exact (Reps.none _ _))
     intro v114 w9 ho10 hb hg_ hnew_
     clear hg_ hnew_
     (first | rw [← Ny113.out] at ho10 | (simp only [Int.reduceToNat] at ho10; rw [← Ny113.out] at ho10))
     have n0_ := Aside0.mk (Kd.R_below (qdr1_3 HO121) hb)
     have n1_ := Aside0.mk (Kd.R_lower ho10 (below_size (qdr1_1 HB GE111 GE112)))
     have n2_ := Aside0.mk (blk_below (g := gb111) (o := .cells #[.slice A0_0 l0_0.length c0_0, .slice A0_1 l0_1.length c0_1, .int .i64 a0_2] 25 (0, 0)) (qdr1_2 BK111) hb)
     have n3_ := Aside0.mk (blk_below (g := gb112) (o := .cells #[.slice none 0 0, .slice none 0 0, .int .i64 0] 25 (0, 0)) (qdr1_2 BK112) hb)
     have n4_ := Aside0.mk (below_step (qdr1_1 HB GE111 GE112) hb)
     clear HO121
     clear BK111
     clear BK112
     clear HB
     have HO121 := n0_
     have HO115 := n1_
     have BK111 := n2_
     have BK112 := n3_
     have HB := n4_
     clear n0_ n1_ n2_ n3_ n4_
     clear hb ho10
     refine hK.out _ _ ⟨(blk_cell BK111.out 0).trans rfl, (blk_cell BK111.out 1).trans rfl, (blk_cell BK111.out 2).trans rfl⟩ (fun hHeld => ?_)
     clear hK K
     refine norm_ (a' := ?_) ?_ ?_
     rotate_left
     ·show Act.put _ (some 3) _ = _
      simp only [Act.put, List.setIfInBounds_toArray, List.set_cons_zero, List.set_cons_succ, i64_w, i32_w]
      rfl
     refine one_ (i := 3) (N := some 6) #[true, true, true, true, true, true, true, false, true, true, false, false] rfl rfl (one_of HT_.out (by kernel_rfl)) (by decide) (fun K hK => ?_)
     refine Kd.R_append_rows_step (Kd.int .i64) (w0 := w) w.heap.size (by rfl) (.tmp 3) (.tmp 5) 22 2 (.int .i64 0) 8 rfl Try.underlying22 info2 rfl (by decide) (by omega) v114 y113 l0_0 _ _ _ (fun _ => True) (fun _ => False) rfl rfl ?aO ?aR (fun _ _ h => h) (fun _ h => h.elim) ?aF ?aB ?aS ?aL ?_
     (case aR => repeat (first | exact (Kd.C_below HR0_0.out HB.out) | (with_reducible refine Kd.C_alloc ?_ _) | (with_reducible refine Kd.C_drewN ?_ _) | (with_reducible refine Kd.C_drew ?_)))
     (case aB => exact (qdr1_1 HB GE111 GE112))
     (case aF => exact (fun _ _ => trivial))
     (case aO => exact (qdr1_3 HO115))
     (case aS => exact (below_size (qdr1_1 HB GE111 GE112)))
     (case aL => have := LMc2.out; omega)
     intro v117 w11 ho hb hg hat
     rw [← Ny116.out] at ho
     have n0_ := Aside0.mk (blk_grown (g := gb111) (o := .cells #[.slice A0_0 l0_0.length c0_0, .slice A0_1 l0_1.length c0_1, .int .i64 a0_2] 25 (0, 0)) (qdr1_2 BK111) hg (Kd.R_ne HO115.out BK111.out (by decide)))
     have n1_ := Aside0.mk (blk_grown (g := gb112) (o := .cells #[.slice none 0 0, .slice none 0 0, .int .i64 0] 25 (0, 0)) (qdr1_2 BK112) hg (Kd.R_ne HO115.out BK112.out (by decide)))
     have n2_ := Aside0.mk (Kd.R_over' (qdr1_3 HO121) (Kd.R_typed (qdr1_3 HO115)) (by decide) hg)
     have n3_ := Aside0.mk (hb)
     have n4_ := Aside0.mk (ho)
     clear BK111
     clear BK112
     clear HO121
     clear HB
     clear HO115
     have BK111 := n0_
     have BK112 := n1_
     have HO121 := n2_
     have HB := n3_
     have HO118 := n4_
     clear n0_ n1_ n2_ n3_ n4_
     clear ho hb hg hat
     refine hK.out _ _ ⟨(blk_cell BK111.out 0).trans rfl, (blk_cell BK111.out 1).trans rfl, (blk_cell BK111.out 2).trans rfl⟩ (fun hHeld => ?_)
     clear hK K
     refine norm_ (a' := ?_) ?_ ?_
     rotate_left
     ·show Act.put _ (some 6) _ = _
      simp only [Act.put, List.setIfInBounds_toArray, List.set_cons_zero, List.set_cons_succ, i64_w, i32_w]
      rfl
     exact norm_ (by simp only [putAll, Act.put, List.setIfInBounds_toArray, List.set_cons_zero, List.set_cons_succ]) (hCont (v114, v117, v120) _ ⟨hHeld, (qdr1_3 HO118), (qdr1_3 HO121), (qdr1_2 BK111), (qdr1_2 BK112), (qdr1_1 HB GE111 GE112)⟩)
   rintro ⟨v114, v117, v120⟩ w12 ⟨hS_, h0_, h1_, h2_, h3_, h4_⟩
   have n0_ : Aside0 (Kd.R (Kd.int .i64) 2 w12 w.heap.size (fun _ => True) v117 y116) := ⟨h0_⟩
   have n1_ : Aside0 (Kd.R k62 62 w12 w.heap.size (fun _ => True) v120 y119) := ⟨h1_⟩
   have n2_ : Aside0 (w12.heap[gb111]? = some (.cells #[.slice A0_0 l0_0.length c0_0, .slice A0_1 l0_1.length c0_1, .int .i64 a0_2] 25 (0, 0))) := ⟨h2_⟩
   have n3_ : Aside0 (w12.heap[gb112]? = some (.cells #[.slice none 0 0, .slice none 0 0, .int .i64 0] 25 (0, 0))) := ⟨h3_⟩
   have n4_ : Aside0 (Below w.heap.size w w12) := ⟨h4_⟩
   clear BK111
   clear BK112
   clear HB
   clear h0_ h1_ h2_ h3_ h4_
   have HO118 := n0_
   have HO121 := n1_
   have BK111 := n2_
   have BK112 := n3_
   have HB := n4_
   clear n0_ n1_ n2_ n3_ n4_
   have hHeld : w12.cell? ⟨gb111, 0, none⟩ = some (.slice A0_0 l0_0.length c0_0) ∧ w12.cell? ⟨gb111, 1, none⟩ = some (.slice A0_1 l0_1.length c0_1) ∧ w12.cell? ⟨gb111, 2, none⟩ = some (.int .i64 a0_2) := hS_
   refine norm_ (a' := ?_) ?_ ?_
   rotate_left
   ·simp only [putAll, Act.put, List.setIfInBounds_toArray, List.set_cons_zero, List.set_cons_succ]
    rfl
   refine one_ (i := 7) (N := some 10) #[true, true, true, true, true, true, true, true, true, true, false, false] rfl rfl (one_of HT_.out (by kernel_rfl)) (by decide) (fun K hK => ?_)
   refine Kd.R_append_rows_step k62 (w0 := w) w.heap.size (by rfl) (.tmp 7) (.tmp 9) 23 62 (.agg #[(.int .u64 0), (.int .i64 0), (.int .i64 0), (.bool false)]) 32 rfl Try.underlying23 info62 rfl (by decide) (by omega) v120 y119 l0_1 _ _ _ (fun _ => True) (fun _ => False) rfl rfl ?aO ?aR (fun _ _ h => h) (fun _ h => h.elim) ?aF ?aB ?aS ?aL ?_
   (case aR => repeat (first | exact (Kd.C_below HR0_1.out HB.out) | (with_reducible refine Kd.C_alloc ?_ _) | (with_reducible refine Kd.C_drewN ?_ _) | (with_reducible refine Kd.C_drew ?_)))
   (case aB => exact (qdr1_1 HB GE111 GE112))
   (case aF => exact (fun _ _ => trivial))
   (case aO => exact (qdr1_3 HO121))
   (case aS => exact (below_size (qdr1_1 HB GE111 GE112)))
   (case aL => have := LMc3.out; omega)
   intro v123 w13 ho hb hg hat
   rw [← Ny122.out] at ho
   have n0_ := Aside0.mk (blk_grown (g := gb111) (o := .cells #[.slice A0_0 l0_0.length c0_0, .slice A0_1 l0_1.length c0_1, .int .i64 a0_2] 25 (0, 0)) (qdr1_2 BK111) hg (Kd.R_ne HO121.out BK111.out (by decide)))
   have n1_ := Aside0.mk (blk_grown (g := gb112) (o := .cells #[.slice none 0 0, .slice none 0 0, .int .i64 0] 25 (0, 0)) (qdr1_2 BK112) hg (Kd.R_ne HO121.out BK112.out (by decide)))
   have n2_ := Aside0.mk (Kd.R_over' (qdr1_3 HO118) (Kd.R_typed (qdr1_3 HO121)) (by decide) hg)
   have n3_ := Aside0.mk (hb)
   have n4_ := Aside0.mk (ho)
   clear BK111
   clear BK112
   clear HO118
   clear HB
   clear HO121
   have BK111 := n0_
   have BK112 := n1_
   have HO118 := n2_
   have HB := n3_
   have HO124 := n4_
   clear n0_ n1_ n2_ n3_ n4_
   clear ho hb hg hat
   obtain ⟨Ao14, co14, eo14⟩ := Kd.R_slice HO124.out
   (first | subst eo14 | (injection eo14 with f1_ f2_ f3_; have f4_ := f1_.symm; have f5_ := f3_.symm; clear f1_ f2_ f3_; subst f4_; subst f5_))
   obtain ⟨Ao15, co15, eo15⟩ := Kd.R_slice HO118.out
   (first | subst eo15 | (injection eo15 with f1_ f2_ f3_; have f4_ := f1_.symm; have f5_ := f3_.symm; clear f1_ f2_ f3_; subst f4_; subst f5_))
   refine hK.out _ _ ⟨(blk_cell BK111.out 0).trans rfl, (blk_cell BK111.out 1).trans rfl, (blk_cell BK111.out 2).trans rfl⟩ (fun hHeld => ?_)
   clear hK K
   refine norm_ (a' := ?_) ?_ ?_
   rotate_left
   ·show Act.put _ (some 10) _ = _
    simp only [Act.put, List.setIfInBounds_toArray, List.set_cons_zero, List.set_cons_succ, i64_w, i32_w]
    rfl
   refine pure_ (i := 10) (N := some 13) (v := ?_) (a' := ?_) #[true, true, true, true, true, true, true, true, true, true, true, false] rfl rfl (any_of HT_.out (by kernel_rfl)) (fun _ _ _ h => h) (Or.inl ⟨by rfl, ?_⟩) ?_ ?_
   rotate_left
   ·intro w'
    go_simp
    with_reducible rfl
   rotate_left
   ·simp only [Act.put, List.setIfInBounds_toArray, List.set_cons_zero, List.set_cons_succ, i64_w, i32_w]
    rfl
   refine one_ (i := 11) (N := none) #[true, true, true, true, true, true, true, true, true, true, true, true] rfl rfl (one_of HT_.out (by kernel_rfl)) (by decide) (fun K hK => ?_)
   have hs16 : w13.cell? ⟨gb112, 0, none⟩ = some (.slice none 0 0) := (blk_cell BK112.out 0).trans rfl
   have hfs16 := blk_frozen BK112.out 0
   have hns16_0 := NB111_112.out
   have hms16_0 := NB112_111.out
   have hs17 : w13.cell? ⟨gb112, 1, none⟩ = some (.slice none 0 0) := (blk_cell BK112.out 1).trans rfl
   have hfs17 := blk_frozen BK112.out 1
   have hns17_0 := NB111_112.out
   have hms17_0 := NB112_111.out
   have hs18 : w13.cell? ⟨gb112, 2, none⟩ = some (.int .i64 0) := (blk_cell BK112.out 2).trans rfl
   have hfs18 := blk_frozen BK112.out 2
   have hns18_0 := NB111_112.out
   have hms18_0 := NB112_111.out
   refine skip_ (w1 := ?_) (by rfl) rfl ?_ ?_
   rotate_left
   ·go_simp
    rfl
   refine hK.out _ _ ⟨((cell_far (p := ⟨gb112, _, none⟩) NB111_112.out _).trans (((cell_far (p := ⟨gb112, _, none⟩) NB111_112.out _).trans (((cell_far (p := ⟨gb112, _, none⟩) NB111_112.out _).trans (hHeld.1)))))), ((cell_far (p := ⟨gb112, _, none⟩) NB111_112.out _).trans (((cell_far (p := ⟨gb112, _, none⟩) NB111_112.out _).trans (((cell_far (p := ⟨gb112, _, none⟩) NB111_112.out _).trans (hHeld.2.1)))))), ((cell_far (p := ⟨gb112, _, none⟩) NB111_112.out _).trans (((cell_far (p := ⟨gb112, _, none⟩) NB111_112.out _).trans (((cell_far (p := ⟨gb112, _, none⟩) NB111_112.out _).trans (hHeld.2.2))))))⟩ (fun hHeld => ?_)
   clear hK K
   refine done_ (done_of HT_.out (by kernel_rfl)) ?_
   try go_wp2
   refine bodyPost_ret (results_cell_row rfl _ _ gb112 25 #[.slice Ao15 y116.length co15, .slice Ao14 y122.length co14, .int .i64 a0_2] (0, 0) _ rfl (by (with_reducible repeat (first | refine blk_drewN ?_ _ | refine blk_drew ?_ | refine blk_alloc ?_ _)); refine blk_put (cs := #[.slice Ao15 y116.length co15, .slice Ao14 y122.length co14, .int .i64 0]) ?_ 2 _ rfl; (with_reducible repeat (first | refine blk_drewN ?_ _ | refine blk_drew ?_ | refine blk_alloc ?_ _)); refine blk_put (cs := #[.slice Ao15 y116.length co15, .slice none 0 0, .int .i64 0]) ?_ 1 _ rfl; (with_reducible repeat (first | refine blk_drewN ?_ _ | refine blk_drew ?_ | refine blk_alloc ?_ _)); refine blk_put (cs := #[.slice none 0 0, .slice none 0 0, .int .i64 0]) ?_ 0 _ rfl; (with_reducible repeat (first | refine blk_drewN ?_ _ | refine blk_drew ?_ | refine blk_alloc ?_ _)); exact BK112.out) Try.underlying25 rfl (by kernel_rfl)) rfl ?_
   exact ⟨_, _, by first | rfl | (simp [errW_none, errW_some] <;> rfl) | (simp [*, errW_none, errW_some] <;> rfl), by (with_reducible repeat (first | apply Kd.R_alloc | apply Kd.R_drewN | apply Kd.R_drew)); exact Kd.R_mono (Kd.R_far (p := ⟨gb112, 2, none⟩) (Kd.R_far (p := ⟨gb112, 1, none⟩) (Kd.R_far (p := ⟨gb112, 0, none⟩) (Kd.R_types HO118.out BK112.out (by decide)) (fun _ hk => hk.2) (.slice Ao15 y116.length co15)) (fun _ hk => hk.2) (.slice Ao14 y122.length co14)) (fun _ hk => hk.2) (.int .i64 a0_2)) (fun _ hk => trivial), by (with_reducible repeat (first | apply Kd.R_alloc | apply Kd.R_drewN | apply Kd.R_drew)); exact Kd.R_mono (Kd.R_far (p := ⟨gb112, 2, none⟩) (Kd.R_far (p := ⟨gb112, 1, none⟩) (Kd.R_far (p := ⟨gb112, 0, none⟩) (Kd.R_types HO124.out BK112.out (by decide)) (fun _ hk => hk.2) (.slice Ao15 y116.length co15)) (fun _ hk => hk.2) (.slice Ao14 y122.length co14)) (fun _ hk => hk.2) (.int .i64 a0_2)) (fun _ hk => trivial), by repeat (first | (with_reducible first | exact HB.out | apply below_alloc | apply pw_below_drewN | apply below_drew1 | refine below_set ?_ GE111.out | refine below_set ?_ GE112.out) | exact HB.out)⟩
  ·rw [if_neg c3] at H
   exact absurd H (by simp)
 ·rw [if_neg c2] at H
  exact absurd H (by simp)

end Go.Proofs.Ytohilfkdfcihgaa.PDi
