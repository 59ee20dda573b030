/- Go functions as Lean functions, and that each Go function comes to just that; printed by a program of this session (gprint.py over the kit's print.py). No condition. -/
import Derived.Test.YtohilfkdfcihgaaPDky0
namespace Go.Proofs.Ytohilfkdfcihgaa.PDi
open Go.RowKit Go.Proofs.YtohilfkdfcihgaaW.PrintWords Go.Proofs.YtohilfkdfcihgaaW.PrintLast Go.Proofs.YtohilfkdfcihgaaW.PrintMore
attribute [local go_sem] max2_int min2_int max_two min_two max_three min_three max_four min_four   -- for this text's walks alone
set_option linter.unusedVariables false
set_option linter.unusedSimpArgs false
theorem qpa_pdkx2 {P : Prop} (h : P := by simp only [Act.put, List.setIfInBounds_toArray, List.set_cons_zero, List.set_cons_succ, i64_w, i32_w]; rfl) : P := h
theorem qnl_pdkx2 {w : World} {g n : Nat} {cs : Array Value} {t : TypeId} {fr : Nat × Nat} {Q : Prop} (y : Q) (hg : n = w.heap.size) (h : Q → w.heap[g]? = some (.cells cs t fr) := by intro y_; (with_reducible repeat (first | refine blk_drewN ?_ _ | refine blk_drew ?_ | refine blk_alloc ?_ _)); exact y_.out) : g ≠ n := by
  rw [hg]; exact Nat.ne_of_lt (blk_lt (h y))
theorem qng_pdkx2 {w : World} {g n : Nat} {cs : Array Value} {t : TypeId} {fr : Nat × Nat} {Q : Prop} (y : Q) (hg : n = w.heap.size) (h : Q → w.heap[g]? = some (.cells cs t fr) := by intro y_; (with_reducible repeat (first | refine blk_drewN ?_ _ | refine blk_drew ?_ | refine blk_alloc ?_ _)); exact y_.out) : n ≠ g := by
  rw [hg]; exact Nat.ne_of_gt (blk_lt (h y))
theorem qpy_pdkx2 {P : Prop} (h : P := by intro w'; go_simp; with_reducible rfl) : P := h
theorem qpt3_pdkx2 {P : Prop} (h : P := by rintro w' ⟨s0, s1, s2⟩; go_simp; with_reducible rfl) : P := h
theorem rdk2_1 {P Q0 Q1 : Prop} (y0 : Q0) (y1 : Q1) (h : Q0 → Q1 → P := by intro y0_ y1_; (with_reducible repeat (first | apply Kd.R_alloc | apply Kd.R_drewN | apply Kd.R_drew)); exact Kd.R_mono (Kd.R_far (p := ⟨gb151, 2, none⟩) (Kd.R_far (p := ⟨gb151, 1, none⟩) (Kd.R_far (p := ⟨gb151, 0, none⟩) (Kd.R_types y0_.out y1_.out (by decide)) (fun _ hk => hk.2) (.slice Ao15 y155.length co15)) (fun _ hk => hk.2) (.slice Ao14 y161.length co14)) (fun _ hk => hk.2) (.int .i64 a0_2)) (fun _ hk => trivial)) : P := h y0 y1
theorem qdk2_1 {P Q0 Q1 Q2 : Prop} (y0 : Q0) (y1 : Q1) (y2 : Q2) (h : Q0 → Q1 → Q2 → P := by intro y0_ y1_ y2_; repeat (first | (with_reducible first | exact y0_.out | apply below_alloc | apply pw_below_drewN | apply below_drew1 | refine below_set ?_ y1_.out | refine below_set ?_ y2_.out) | exact y0_.out)) : P := h y0 y1 y2
theorem qdk2_2 {P Q0 : Prop} (y0 : Q0) (h : Q0 → P := by intro y0_; (with_reducible repeat (first | refine blk_drewN ?_ _ | refine blk_drew ?_ | refine blk_alloc ?_ _)); exact y0_.out) : P := h y0
theorem qdk2_3 {P Q0 : Prop} (y0 : Q0) (h : Q0 → P := by intro y0_; (with_reducible repeat (first | apply Kd.R_alloc | apply Kd.R_drewN | apply Kd.R_drew)); exact y0_.out) : P := h y0
theorem qdk2_4 {P : Prop} (h : P := by first | (go_simp; done) | (go_simp; rfl)) : P := h
theorem qdk2_5 {P Q0 Q1 : Prop} (y0 : Q0) (y1 : Q1) (h : Q0 → Q1 → P := by intro y0_ y1_; repeat (first | (with_reducible first | exact y0_.out | apply below_alloc | apply pw_below_drewN | apply below_drew1 | refine below_set ?_ y1_.out) | exact y0_.out)) : P := h y0 y1
theorem qdk2_6 {P Q0 : Prop} (y0 : Q0) (h : Q0 → P := by intro y0_; repeat (first | (with_reducible first | exact y0_.out | apply below_alloc | apply pw_below_drewN | apply below_drew1) | exact y0_.out)) : P := h y0
def spec_l7Copy.f (l0_0 : List Int) (l0_1 : List (S62)) (a0_2 : Int) : Option (List Int × (List (S62)) × Int) := (some (([] : List Int) : List Int)).bind fun y152 => (if y152.length + l0_0.length < 17592186044416 then ((some (([] : List (S62)) : List (S62))).bind fun y158 => (if y158.length + l0_1.length < 4398046511104 then (some ((y152 ++ l0_0), (y158 ++ l0_1), a0_2)) else (none))) else (none))
def spec_l7Copy.T1 : Bool × List (List Nat × List Nat) := (true, [([], []), ([], []), ([1], [1]), ([0, 2], [0, 2]), ([], []), ([], []), ([5], [5]), ([4, 6, 3], [4, 6]), ([], []), ([8], [8]), ([3, 7, 9], [3, 7, 9]), ([10, 7, 0, 1, 2, 3, 4, 5, 6, 7, 8, 9, 10], [10])])
def spec_l7Copy.B1 : List Nat := [0, 0, 2, 7, 0, 0, 32, 127, 0, 256, 1023, 2047]
theorem spec_l7Copy.tab1 : rtab .any (opsOf Try.f74 1) = spec_l7Copy.T1 := by kernel_rfl
theorem spec_l7Copy.bits1 : waitsOk spec_l7Copy.T1.2 spec_l7Copy.B1 = true := by kernel_rfl
set_option maxHeartbeats 8000000 in
set_option maxRecDepth 100000 in
theorem spec_l7Copy.calls (A0_0 : Option Addr) (c0_0 : Nat) (l0_0 : List Int) (A0_1 : Option Addr) (c0_1 : Nat) (l0_1 : List (S62)) (a0_2 : Int) (r1 : List Int) (r2 : List (S62)) (r3 : Int) (w : World) (hr0_0 : Kd.C (Kd.int .i64) w A0_0 l0_0.length l0_0) (hc0_0 : l0_0.length ≤ c0_0) (hr0_1 : Kd.C k62 w A0_1 l0_1.length l0_1) (hc0_1 : l0_1.length ≤ c0_1) (h : spec_l7Copy.f l0_0 l0_1 a0_2 = some (r1, r2, r3)) :
  Calls Try.prog 74 #[.agg #[.slice A0_0 l0_0.length c0_0, .slice A0_1 l0_1.length c0_1, .int .i64 a0_2]] w fun e w' => ∃ v0_ v1_ : Value, e = .returned (.agg #[v0_, v1_, .int .i64 r3]) ∧ Kd.R (Kd.int .i64) 2 w' w.heap.size (fun _ => True) v0_ r1 ∧ Kd.R k62 62 w' w.heap.size (fun _ => True) v1_ r2 ∧ Below w.heap.size w w' := by
 have hu25 := Try.underlying25
 have HR0_0 := Aside0.mk hr0_0
 have HC0_0 := Aside0.mk hc0_0
 clear hr0_0 hc0_0
 have HR0_1 := Aside0.mk hr0_1
 have HC0_1 := Aside0.mk hc0_1
 clear hr0_1 hc0_1
 have HB := Aside0.mk (Below.refl w.heap.size w)
 have H : ((some (([] : List Int) : List Int)).bind fun y152 => (if y152.length + l0_0.length < 17592186044416 then ((some (([] : List (S62)) : List (S62))).bind fun y158 => (if y158.length + l0_1.length < 4398046511104 then (some ((y152 ++ l0_0), (y158 ++ l0_1), a0_2)) else (none))) else (none))) = some (r1, r2, r3) := h
 clear h
 obtain ⟨y152, hy152⟩ : ∃ y_ : List Int, y_ = (([] : List Int)) := ⟨_, rfl⟩
 replace H : (if y152.length + l0_0.length < 17592186044416 then ((some (([] : List (S62)) : List (S62))).bind fun y158 => (if y158.length + l0_1.length < 4398046511104 then (some ((y152 ++ l0_0), (y158 ++ l0_1), a0_2)) else (none))) else (none)) = some (r1, r2, r3) := by first | (rw [hy152]; with_reducible exact H) | (have H2_ := (Option.bind_some _ _).symm.trans H; rw [hy152]; with_reducible exact H2_) | (have H2_ := (Option.bind_some _ _).symm.trans H; with_reducible exact H2_) | with_reducible exact H | (rw [hy152]; exact H) | exact H
 have Ny152 := Aside0.mk hy152
 clear hy152
 by_cases c2 : y152.length + l0_0.length < 17592186044416
 ·rw [if_pos c2] at H
  have LMc2 := Aside0.mk c2
  clear c2
  obtain ⟨y155, hy155⟩ : ∃ y_ : List Int, y_ = (y152 ++ l0_0) := ⟨_, rfl⟩
  replace H : ((some (([] : List (S62)) : List (S62))).bind fun y158 => (if y158.length + l0_1.length < 4398046511104 then (some (y155, (y158 ++ l0_1), a0_2)) else (none))) = some (r1, r2, r3) := by first | (rw [hy155]; with_reducible exact H) | (have H2_ := (Option.bind_some _ _).symm.trans H; rw [hy155]; with_reducible exact H2_) | (have H2_ := (Option.bind_some _ _).symm.trans H; with_reducible exact H2_) | with_reducible exact H | (rw [hy155]; exact H) | exact H
  have Ny155 := Aside0.mk hy155
  clear hy155
  obtain ⟨y158, hy158⟩ : ∃ y_ : List (S62), y_ = (([] : List (S62))) := ⟨_, rfl⟩
  replace H : (if y158.length + l0_1.length < 4398046511104 then (some (y155, (y158 ++ l0_1), a0_2)) else (none)) = some (r1, r2, r3) := by first | (rw [hy158]; with_reducible exact H) | (have H2_ := (Option.bind_some _ _).symm.trans H; rw [hy158]; with_reducible exact H2_) | (have H2_ := (Option.bind_some _ _).symm.trans H; with_reducible exact H2_) | with_reducible exact H | (rw [hy158]; exact H) | exact H
  have Ny158 := Aside0.mk hy158
  clear hy158
  by_cases c3 : y158.length + l0_1.length < 4398046511104
  ·rw [if_pos c3] at H
   have LMc3 := Aside0.mk c3
   clear c3
   obtain ⟨y161, hy161⟩ : ∃ y_ : List (S62), y_ = (y158 ++ l0_1) := ⟨_, rfl⟩
   replace H : (some (y155, y161, a0_2)) = some (r1, r2, r3) := by first | (rw [hy161]; with_reducible exact H) | (have H2_ := (Option.bind_some _ _).symm.trans H; rw [hy161]; with_reducible exact H2_) | (have H2_ := (Option.bind_some _ _).symm.trans H; with_reducible exact H2_) | with_reducible exact H | (rw [hy161]; exact H) | exact H
   have Ny161 := Aside0.mk hy161
   clear hy161
   simp only [Option.some.injEq, Prod.mk.injEq] at H
   obtain ⟨rfl, rfl, rfl⟩ := H
   go_enter Try.func74, Try.ntmps74
   try go_wp2_with (first | ((with_reducible refine gate_dst (N := 1) rfl ?_); refine box_event ?hg (N := 1) ?hd (cs := #[.slice A0_0 l0_0.length c0_0, .slice A0_1 l0_1.length c0_1, .int .i64 a0_2]) (t := 25) ?hr ?_; (case hd => rfl); (case hg => rfl); (case hr => exact qdk2_4); intro gb150 hg w4 hbox hb; have n0_ := Aside0.mk (below_step (qdk2_6 HB) hb); have n1_ := Aside0.mk (hbox); have n2_ := Aside0.mk ((by rw [hg]; exact (below_size (qdk2_6 HB)) : w.heap.size ≤ gb150)); have n3_ := Aside0.mk ((by rw [hg]; exact (below_size (qdk2_6 HB)) : w.heap.size ≤ gb150)); clear HB; have HB := n0_; have BK150 := n1_; have GW150 := n2_; have GE150 := n3_; clear n0_ n1_ n2_ n3_; clear hb hbox hg) | ((with_reducible refine gate_dst (N := 2) rfl ?_); refine box_event ?hg (N := 2) ?hd (cs := #[.slice none 0 0, .slice none 0 0, .int .i64 0]) (t := 25) ?hr ?_; (case hd => rfl); (case hg => rfl); (case hr => exact qdk2_4); intro gb151 hg w5 hbox hb; have n0_ := Aside0.mk (blk_below (qdk2_2 BK150) hb); have n1_ := Aside0.mk (below_step (qdk2_5 HB GE150) hb); have n2_ := Aside0.mk (hbox); have n3_ := Aside0.mk ((by rw [hg]; exact (below_size (qdk2_5 HB GE150)) : w.heap.size ≤ gb151)); have n4_ := Aside0.mk ((by rw [hg]; exact (below_size (qdk2_5 HB GE150)) : w.heap.size ≤ gb151)); have n5_ := Aside0.mk ((qnl_pdkx2 BK150 hg : gb150 ≠ gb151)); have n6_ := Aside0.mk ((qng_pdkx2 BK150 hg : gb151 ≠ gb150)); clear BK150 HB; have BK150 := n0_; have HB := n1_; have BK151 := n2_; have GW151 := n3_; have GE151 := n4_; have NB150_151 := n5_; have NB151_150 := n6_; clear n0_ n1_ n2_ n3_ n4_ n5_ n6_; clear hb hbox hg))
   have n0_ := Aside0.mk (blk_drew BK150.out)
   have n1_ := Aside0.mk (blk_drew BK151.out)
   have n2_ := Aside0.mk (below_drew1 HB.out)
   clear BK150 BK151 HB
   have BK150 := n0_
   have BK151 := n1_
   have HB := n2_
   clear n0_ n1_ n2_
   refine start_ (n := 12) (S := fun w' => w'.cell? ⟨gb150, 0, none⟩ = some (.slice A0_0 l0_0.length c0_0) ∧ w'.cell? ⟨gb150, 1, none⟩ = some (.slice A0_1 l0_1.length c0_1) ∧ w'.cell? ⟨gb150, 2, none⟩ = some (.int .i64 a0_2)) (ds := []) (bs_ 12 0) (by kernel_rfl) rfl rfl ⟨(blk_cell BK150.out 0).trans rfl, (blk_cell BK150.out 1).trans rfl, (blk_cell BK150.out 2).trans rfl⟩ (fun hHeld => ?_); refine with_tabW spec_l7Copy.tab1 spec_l7Copy.bits1 (fun HT_ HW_ => ?_)
   generalize w5.drew = w6 at BK150 BK151 HB hHeld ⊢
   refine pure_ (i := 1) (N := some 4) (bs_ 12 2) rfl rfl (any_of HT_.out (by kernel_rfl)) (fun _ _ _ h => h) (Or.inl ⟨by rfl, qpy_pdkx2⟩) qpa_pdkx2 ?_
   refine pure_ (i := 5) (N := some 8) (bs_ 12 34) rfl rfl (any_of HT_.out (by kernel_rfl)) (fun _ _ _ h => h) (Or.inl ⟨by rfl, qpy_pdkx2⟩) qpa_pdkx2 ?_
   refine pure_ (i := 8) (N := some 11) (bs_ 12 290) rfl rfl (any_of HT_.out (by kernel_rfl)) (fun _ _ _ h => h) (Or.inl ⟨by rfl, qpy_pdkx2⟩) qpa_pdkx2 ?_
   refine take_ (i := 2) (N := some 5) (bs_ 12 294) rfl rfl (take_ofW HT_.out HW_.out (by kernel_rfl)) (fun _ _ _ h => h) (Or.inl ⟨by rfl, qpt3_pdkx2⟩) hHeld qpa_pdkx2 ?_
   refine take_ (i := 6) (N := some 9) (bs_ 12 358) rfl rfl (take_ofW HT_.out HW_.out (by kernel_rfl)) (fun _ _ _ h => h) (Or.inl ⟨by rfl, qpt3_pdkx2⟩) hHeld qpa_pdkx2 ?_
   refine take_ (i := 9) (N := some 12) (bs_ 12 870) rfl rfl (take_ofW HT_.out HW_.out (by kernel_rfl)) (fun _ _ _ h => h) (Or.inl ⟨by rfl, qpt3_pdkx2⟩) hHeld qpa_pdkx2 ?_
   refine join_ (σ := Value × Value × Value) 3 (bs_ 12 895) (fun s_ => [(3, s_.1), (6, s_.2.1), (7, s_.2.2)]) (fun s_ w' => (w'.cell? ⟨gb150, 0, none⟩ = some (.slice A0_0 l0_0.length c0_0) ∧ w'.cell? ⟨gb150, 1, none⟩ = some (.slice A0_1 l0_1.length c0_1) ∧ w'.cell? ⟨gb150, 2, none⟩ = some (.int .i64 a0_2)) ∧ (Kd.R (Kd.int .i64) 2 w' w.heap.size (fun _ => True) s_.2.1 y155) ∧ (Kd.R k62 62 w' w.heap.size (fun _ => True) s_.2.2 y158) ∧ (w'.heap[gb150]? = some (.cells #[.slice A0_0 l0_0.length c0_0, .slice A0_1 l0_1.length c0_1, .int .i64 a0_2] 25 (0, 0))) ∧ (w'.heap[gb151]? = some (.cells #[.slice none 0 0, .slice none 0 0, .int .i64 0] 25 (0, 0))) ∧ (Below w.heap.size w w')) ?_ ?_
   rotate_left
   ·intro hCont
    refine two_ (i := 0) (j := 4) (Ni := some 3) (Nj := some 7) (bs_ 12 871) (bs_ 12 886) rfl rfl rfl rfl (two_of HT_.out (by kernel_rfl)) (by decide) (by decide) (fun K hK => ?_) (fun K hK => ?_)
    ·skip
     refine Kd.R_lit_step (Kd.int .i64) _ 2 ?hg (N := 3) ?hd (xs := ([] : List Int)) (inner := []) (ok := fun _ => True) (okp := fun _ => True) ?hr ?hp (fun _ hk => hk) trivial (Below.refl _ _) (Nat.le_refl _) (by simp) ?_; (case hd => rfl); (case hg => rfl); (case hr => exact qdk2_4); (case hp => exact (Reps.none _ _))
     intro v153 w7 ho8 hb hg_ hnew_
     clear hg_ hnew_
     (first | rw [← Ny152.out] at ho8 | (simp only [Int.reduceToNat] at ho8; rw [← Ny152.out] at ho8))
     have n0_ := Aside0.mk (Kd.R_lower ho8 (below_size (qdk2_1 HB GE150 GE151)))
     have n1_ := Aside0.mk (blk_below (qdk2_2 BK150) hb)
     have n2_ := Aside0.mk (blk_below (qdk2_2 BK151) hb)
     have n3_ := Aside0.mk (below_step (qdk2_1 HB GE150 GE151) hb)
     clear BK150 BK151 HB
     have HO154 := n0_
     have BK150 := n1_
     have BK151 := n2_
     have HB := n3_
     clear n0_ n1_ n2_ n3_ hb ho8
     refine hK.out _ _ ⟨(blk_cell BK150.out 0).trans rfl, (blk_cell BK150.out 1).trans rfl, (blk_cell BK150.out 2).trans rfl⟩ (fun hHeld => ?_)
     clear hK K
     refine norm_ (a' := ?_) ?_ ?_
     rotate_left
     ·show Act.put _ (some 3) _ = _
      simp only [Act.put, List.setIfInBounds_toArray, List.set_cons_zero, List.set_cons_succ, i64_w, i32_w]
      rfl
     refine two_ (i := 3) (j := 4) (Ni := some 6) (Nj := some 7) (bs_ 12 879) (bs_ 12 887) rfl rfl rfl rfl (two_of HT_.out (by kernel_rfl)) (by decide) (by decide) (fun K hK => ?_) (fun K hK => ?_)
     ·skip
      refine Kd.R_append_rows_step (Kd.int .i64) (w0 := w) w.heap.size (by rfl) (.tmp 3) (.tmp 5) 22 2 (.int .i64 0) 8 rfl Try.underlying22 info2 rfl (by decide) (by omega) v153 y152 l0_0 _ _ _ (fun _ => True) (fun _ => False) rfl rfl ?aO ?aR (fun _ _ h => h) (fun _ h => h.elim) ?aF ?aB ?aS ?aL ?_
      (case aR => repeat (first | exact (Kd.C_below HR0_0.out HB.out) | (with_reducible refine Kd.C_alloc ?_ _) | (with_reducible refine Kd.C_drewN ?_ _) | (with_reducible refine Kd.C_drew ?_)))
      (case aB => exact (qdk2_1 HB GE150 GE151))
      (case aF => exact (fun _ _ => trivial))
      (case aO => exact (qdk2_3 HO154))
      (case aS => exact (below_size (qdk2_1 HB GE150 GE151)))
      (case aL => have := LMc2.out; omega)
      intro v156 w9 ho hb hg hat
      rw [← Ny155.out] at ho
      have n0_ := Aside0.mk (blk_grown (g := gb150) (o := .cells #[.slice A0_0 l0_0.length c0_0, .slice A0_1 l0_1.length c0_1, .int .i64 a0_2] 25 (0, 0)) (qdk2_2 BK150) hg (Kd.R_ne HO154.out BK150.out (by decide)))
      have n1_ := Aside0.mk (blk_grown (g := gb151) (o := .cells #[.slice none 0 0, .slice none 0 0, .int .i64 0] 25 (0, 0)) (qdk2_2 BK151) hg (Kd.R_ne HO154.out BK151.out (by decide)))
      have n2_ := Aside0.mk (hb)
      have n3_ := Aside0.mk (ho)
      clear BK150 BK151 HB HO154
      have BK150 := n0_
      have BK151 := n1_
      have HB := n2_
      have HO157 := n3_
      clear n0_ n1_ n2_ n3_ ho hb hg hat
      refine hK.out _ _ ⟨(blk_cell BK150.out 0).trans rfl, (blk_cell BK150.out 1).trans rfl, (blk_cell BK150.out 2).trans rfl⟩ (fun hHeld => ?_)
      clear hK K
      refine norm_ (a' := ?_) ?_ ?_
      rotate_left
      ·show Act.put _ (some 6) _ = _
       simp only [Act.put, List.setIfInBounds_toArray, List.set_cons_zero, List.set_cons_succ, i64_w, i32_w]
       rfl
      refine one_ (i := 4) (N := some 7) (bs_ 12 895) rfl rfl (one_of HT_.out (by kernel_rfl)) (by decide) (fun K hK => ?_)
      refine Kd.R_lit_step k62 _ 62 ?hg (N := 7) ?hd (xs := ([] : List (S62))) (inner := []) (ok := fun _ => True) (okp := fun _ => True) ?hr ?hp (fun _ hk => hk) trivial (Below.refl _ _) (Nat.le_refl _) (by simp) ?_; (case hd => rfl); (case hg => rfl); (case hr => exact qdk2_4); (case hp => exact (Reps.none _ _))
      intro v159 w10 ho11 hb hg_ hnew_
      clear hg_ hnew_
      (first | rw [← Ny158.out] at ho11 | (simp only [Int.reduceToNat] at ho11; rw [← Ny158.out] at ho11))
      have n0_ := Aside0.mk (Kd.R_below (qdk2_3 HO157) hb)
      have n1_ := Aside0.mk (Kd.R_lower ho11 (below_size (qdk2_1 HB GE150 GE151)))
      have n2_ := Aside0.mk (blk_below (qdk2_2 BK150) hb)
      have n3_ := Aside0.mk (blk_below (qdk2_2 BK151) hb)
      have n4_ := Aside0.mk (below_step (qdk2_1 HB GE150 GE151) hb)
      clear HO157 BK150 BK151 HB
      have HO157 := n0_
      have HO160 := n1_
      have BK150 := n2_
      have BK151 := n3_
      have HB := n4_
      clear n0_ n1_ n2_ n3_ n4_ hb ho11
      refine hK.out _ _ ⟨(blk_cell BK150.out 0).trans rfl, (blk_cell BK150.out 1).trans rfl, (blk_cell BK150.out 2).trans rfl⟩ (fun hHeld => ?_)
      clear hK K
      refine norm_ (a' := ?_) ?_ ?_
      rotate_left
      ·show Act.put _ (some 7) _ = _
       simp only [Act.put, List.setIfInBounds_toArray, List.set_cons_zero, List.set_cons_succ, i64_w, i32_w]
       rfl
      exact norm_ (by simp only [putAll, Act.put, List.setIfInBounds_toArray, List.set_cons_zero, List.set_cons_succ]) (hCont (v153, v156, v159) _ ⟨hHeld, (qdk2_3 HO157), (qdk2_3 HO160), (qdk2_2 BK150), (qdk2_2 BK151), (qdk2_1 HB GE150 GE151)⟩)
     skip
     refine Kd.R_lit_step k62 _ 62 ?hg (N := 7) ?hd (xs := ([] : List (S62))) (inner := []) (ok := fun _ => True) (okp := fun _ => True) ?hr ?hp (fun _ hk => hk) trivial (Below.refl _ _) (Nat.le_refl _) (by simp) ?_; (case hd => rfl); (case hg => rfl); (case hr => exact qdk2_4); (case hp => exact (Reps.none _ _))
     intro v159 w9 ho10 hb hg_ hnew_
     clear hg_ hnew_
     (first | rw [← Ny158.out] at ho10 | (simp only [Int.reduceToNat] at ho10; rw [← Ny158.out] at ho10))
     have n0_ := Aside0.mk (Kd.R_below (qdk2_3 HO154) hb)
     have n1_ := Aside0.mk (Kd.R_lower ho10 (below_size (qdk2_1 HB GE150 GE151)))
     have n2_ := Aside0.mk (blk_below (qdk2_2 BK150) hb)
     have n3_ := Aside0.mk (blk_below (qdk2_2 BK151) hb)
     have n4_ := Aside0.mk (below_step (qdk2_1 HB GE150 GE151) hb)
     clear HO154 BK150 BK151 HB
     have HO154 := n0_
     have HO160 := n1_
     have BK150 := n2_
     have BK151 := n3_
     have HB := n4_
     clear n0_ n1_ n2_ n3_ n4_ hb ho10
     refine hK.out _ _ ⟨(blk_cell BK150.out 0).trans rfl, (blk_cell BK150.out 1).trans rfl, (blk_cell BK150.out 2).trans rfl⟩ (fun hHeld => ?_)
     clear hK K
     refine norm_ (a' := ?_) ?_ ?_
     rotate_left
     ·show Act.put _ (some 7) _ = _
      simp only [Act.put, List.setIfInBounds_toArray, List.set_cons_zero, List.set_cons_succ, i64_w, i32_w]
      rfl
     refine one_ (i := 3) (N := some 6) (bs_ 12 895) rfl rfl (one_of HT_.out (by kernel_rfl)) (by decide) (fun K hK => ?_)
     refine Kd.R_append_rows_step (Kd.int .i64) (w0 := w) w.heap.size (by rfl) (.tmp 3) (.tmp 5) 22 2 (.int .i64 0) 8 rfl Try.underlying22 info2 rfl (by decide) (by omega) v153 y152 l0_0 _ _ _ (fun _ => True) (fun _ => False) rfl rfl ?aO ?aR (fun _ _ h => h) (fun _ h => h.elim) ?aF ?aB ?aS ?aL ?_
     (case aR => repeat (first | exact (Kd.C_below HR0_0.out HB.out) | (with_reducible refine Kd.C_alloc ?_ _) | (with_reducible refine Kd.C_drewN ?_ _) | (with_reducible refine Kd.C_drew ?_)))
     (case aB => exact (qdk2_1 HB GE150 GE151))
     (case aF => exact (fun _ _ => trivial))
     (case aO => exact (qdk2_3 HO154))
     (case aS => exact (below_size (qdk2_1 HB GE150 GE151)))
     (case aL => have := LMc2.out; omega)
     intro v156 w11 ho hb hg hat
     rw [← Ny155.out] at ho
     have n0_ := Aside0.mk (blk_grown (g := gb150) (o := .cells #[.slice A0_0 l0_0.length c0_0, .slice A0_1 l0_1.length c0_1, .int .i64 a0_2] 25 (0, 0)) (qdk2_2 BK150) hg (Kd.R_ne HO154.out BK150.out (by decide)))
     have n1_ := Aside0.mk (blk_grown (g := gb151) (o := .cells #[.slice none 0 0, .slice none 0 0, .int .i64 0] 25 (0, 0)) (qdk2_2 BK151) hg (Kd.R_ne HO154.out BK151.out (by decide)))
     have n2_ := Aside0.mk (Kd.R_over' (qdk2_3 HO160) (Kd.R_typed (qdk2_3 HO154)) (by decide) hg)
     have n3_ := Aside0.mk (hb)
     have n4_ := Aside0.mk (ho)
     clear BK150 BK151 HO160 HB HO154
     have BK150 := n0_
     have BK151 := n1_
     have HO160 := n2_
     have HB := n3_
     have HO157 := n4_
     clear n0_ n1_ n2_ n3_ n4_ ho hb hg hat
     refine hK.out _ _ ⟨(blk_cell BK150.out 0).trans rfl, (blk_cell BK150.out 1).trans rfl, (blk_cell BK150.out 2).trans rfl⟩ (fun hHeld => ?_)
     clear hK K
     refine norm_ (a' := ?_) ?_ ?_
     rotate_left
     ·show Act.put _ (some 6) _ = _
      simp only [Act.put, List.setIfInBounds_toArray, List.set_cons_zero, List.set_cons_succ, i64_w, i32_w]
      rfl
     exact norm_ (by simp only [putAll, Act.put, List.setIfInBounds_toArray, List.set_cons_zero, List.set_cons_succ]) (hCont (v153, v156, v159) _ ⟨hHeld, (qdk2_3 HO157), (qdk2_3 HO160), (qdk2_2 BK150), (qdk2_2 BK151), (qdk2_1 HB GE150 GE151)⟩)
    skip
    refine Kd.R_lit_step k62 _ 62 ?hg (N := 7) ?hd (xs := ([] : List (S62))) (inner := []) (ok := fun _ => True) (okp := fun _ => True) ?hr ?hp (fun _ hk => hk) trivial (Below.refl _ _) (Nat.le_refl _) (by simp) ?_; (case hd => rfl); (case hg => rfl); (case hr => exact qdk2_4); (case hp => exact (Reps.none _ _))
    intro v159 w7 ho8 hb hg_ hnew_
    clear hg_ hnew_
    (first | rw [← Ny158.out] at ho8 | (simp only [Int.reduceToNat] at ho8; rw [← Ny158.out] at ho8))
    have n0_ := Aside0.mk (Kd.R_lower ho8 (below_size (qdk2_1 HB GE150 GE151)))
    have n1_ := Aside0.mk (blk_below (qdk2_2 BK150) hb)
    have n2_ := Aside0.mk (blk_below (qdk2_2 BK151) hb)
    have n3_ := Aside0.mk (below_step (qdk2_1 HB GE150 GE151) hb)
    clear BK150 BK151 HB
    have HO160 := n0_
    have BK150 := n1_
    have BK151 := n2_
    have HB := n3_
    clear n0_ n1_ n2_ n3_ hb ho8
    refine hK.out _ _ ⟨(blk_cell BK150.out 0).trans rfl, (blk_cell BK150.out 1).trans rfl, (blk_cell BK150.out 2).trans rfl⟩ (fun hHeld => ?_)
    clear hK K
    refine norm_ (a' := ?_) ?_ ?_
    rotate_left
    ·show Act.put _ (some 7) _ = _
     simp only [Act.put, List.setIfInBounds_toArray, List.set_cons_zero, List.set_cons_succ, i64_w, i32_w]
     rfl
    refine one_ (i := 0) (N := some 3) (bs_ 12 887) rfl rfl (one_of HT_.out (by kernel_rfl)) (by decide) (fun K hK => ?_)
    refine Kd.R_lit_step (Kd.int .i64) _ 2 ?hg (N := 3) ?hd (xs := ([] : List Int)) (inner := []) (ok := fun _ => True) (okp := fun _ => True) ?hr ?hp (fun _ hk => hk) trivial (Below.refl _ _) (Nat.le_refl _) (by simp) ?_; (case hd => rfl); (case hg => rfl); (case hr => exact qdk2_4); (case hp => exact (Reps.none _ _))
    intro v153 w9 ho10 hb hg_ hnew_
    clear hg_ hnew_
    (first | rw [← Ny152.out] at ho10 | (simp only [Int.reduceToNat] at ho10; rw [← Ny152.out] at ho10))
    have n0_ := Aside0.mk (Kd.R_below (qdk2_3 HO160) hb)
    have n1_ := Aside0.mk (Kd.R_lower ho10 (below_size (qdk2_1 HB GE150 GE151)))
    have n2_ := Aside0.mk (blk_below (qdk2_2 BK150) hb)
    have n3_ := Aside0.mk (blk_below (qdk2_2 BK151) hb)
    have n4_ := Aside0.mk (below_step (qdk2_1 HB GE150 GE151) hb)
    clear HO160 BK150 BK151 HB
    have HO160 := n0_
    have HO154 := n1_
    have BK150 := n2_
    have BK151 := n3_
    have HB := n4_
    clear n0_ n1_ n2_ n3_ n4_ hb ho10
    refine hK.out _ _ ⟨(blk_cell BK150.out 0).trans rfl, (blk_cell BK150.out 1).trans rfl, (blk_cell BK150.out 2).trans rfl⟩ (fun hHeld => ?_)
    clear hK K
    refine norm_ (a' := ?_) ?_ ?_
    rotate_left
    ·show Act.put _ (some 3) _ = _
     simp only [Act.put, List.setIfInBounds_toArray, List.set_cons_zero, List.set_cons_succ, i64_w, i32_w]
     rfl
    refine one_ (i := 3) (N := some 6) (bs_ 12 895) rfl rfl (one_of HT_.out (by kernel_rfl)) (by decide) (fun K hK => ?_)
    refine Kd.R_append_rows_step (Kd.int .i64) (w0 := w) w.heap.size (by rfl) (.tmp 3) (.tmp 5) 22 2 (.int .i64 0) 8 rfl Try.underlying22 info2 rfl (by decide) (by omega) v153 y152 l0_0 _ _ _ (fun _ => True) (fun _ => False) rfl rfl ?aO ?aR (fun _ _ h => h) (fun _ h => h.elim) ?aF ?aB ?aS ?aL ?_
    (case aR => repeat (first | exact (Kd.C_below HR0_0.out HB.out) | (with_reducible refine Kd.C_alloc ?_ _) | (with_reducible refine Kd.C_drewN ?_ _) | (with_reducible refine Kd.C_drew ?_)))
    (case aB => exact (qdk2_1 HB GE150 GE151))
    (case aF => exact (fun _ _ => trivial))
    (case aO => exact (qdk2_3 HO154))
    (case aS => exact (below_size (qdk2_1 HB GE150 GE151)))
    (case aL => have := LMc2.out; omega)
    intro v156 w11 ho hb hg hat
    rw [← Ny155.out] at ho
    have n0_ := Aside0.mk (blk_grown (g := gb150) (o := .cells #[.slice A0_0 l0_0.length c0_0, .slice A0_1 l0_1.length c0_1, .int .i64 a0_2] 25 (0, 0)) (qdk2_2 BK150) hg (Kd.R_ne HO154.out BK150.out (by decide)))
    have n1_ := Aside0.mk (blk_grown (g := gb151) (o := .cells #[.slice none 0 0, .slice none 0 0, .int .i64 0] 25 (0, 0)) (qdk2_2 BK151) hg (Kd.R_ne HO154.out BK151.out (by decide)))
    have n2_ := Aside0.mk (Kd.R_over' (qdk2_3 HO160) (Kd.R_typed (qdk2_3 HO154)) (by decide) hg)
    have n3_ := Aside0.mk (hb)
    have n4_ := Aside0.mk (ho)
    clear BK150 BK151 HO160 HB HO154
    have BK150 := n0_
    have BK151 := n1_
    have HO160 := n2_
    have HB := n3_
    have HO157 := n4_
    clear n0_ n1_ n2_ n3_ n4_ ho hb hg hat
    refine hK.out _ _ ⟨(blk_cell BK150.out 0).trans rfl, (blk_cell BK150.out 1).trans rfl, (blk_cell BK150.out 2).trans rfl⟩ (fun hHeld => ?_)
    clear hK K
    refine norm_ (a' := ?_) ?_ ?_
    rotate_left
    ·show Act.put _ (some 6) _ = _
     simp only [Act.put, List.setIfInBounds_toArray, List.set_cons_zero, List.set_cons_succ, i64_w, i32_w]
     rfl
    exact norm_ (by simp only [putAll, Act.put, List.setIfInBounds_toArray, List.set_cons_zero, List.set_cons_succ]) (hCont (v153, v156, v159) _ ⟨hHeld, (qdk2_3 HO157), (qdk2_3 HO160), (qdk2_2 BK150), (qdk2_2 BK151), (qdk2_1 HB GE150 GE151)⟩)
   rintro ⟨v153, v156, v159⟩ w12 ⟨hS_, h0_, h1_, h2_, h3_, h4_⟩
   have n0_ : Aside0 (Kd.R (Kd.int .i64) 2 w12 w.heap.size (fun _ => True) v156 y155) := ⟨h0_⟩
   have n1_ : Aside0 (Kd.R k62 62 w12 w.heap.size (fun _ => True) v159 y158) := ⟨h1_⟩
   have n2_ : Aside0 (w12.heap[gb150]? = some (.cells #[.slice A0_0 l0_0.length c0_0, .slice A0_1 l0_1.length c0_1, .int .i64 a0_2] 25 (0, 0))) := ⟨h2_⟩
   have n3_ : Aside0 (w12.heap[gb151]? = some (.cells #[.slice none 0 0, .slice none 0 0, .int .i64 0] 25 (0, 0))) := ⟨h3_⟩
   have n4_ : Aside0 (Below w.heap.size w w12) := ⟨h4_⟩
   clear BK150 BK151 HB h0_ h1_ h2_ h3_ h4_
   have HO157 := n0_
   have HO160 := n1_
   have BK150 := n2_
   have BK151 := n3_
   have HB := n4_
   clear n0_ n1_ n2_ n3_ n4_
   have hHeld : w12.cell? ⟨gb150, 0, none⟩ = some (.slice A0_0 l0_0.length c0_0) ∧ w12.cell? ⟨gb150, 1, none⟩ = some (.slice A0_1 l0_1.length c0_1) ∧ w12.cell? ⟨gb150, 2, none⟩ = some (.int .i64 a0_2) := hS_
   refine norm_ (a' := ?_) ?_ ?_
   rotate_left
   ·simp only [putAll, Act.put, List.setIfInBounds_toArray, List.set_cons_zero, List.set_cons_succ]
    rfl
   refine one_ (i := 7) (N := some 10) (bs_ 12 1023) rfl rfl (one_of HT_.out (by kernel_rfl)) (by decide) (fun K hK => ?_)
   refine Kd.R_append_rows_step k62 (w0 := w) w.heap.size (by rfl) (.tmp 7) (.tmp 9) 23 62 (.agg #[(.int .u64 0), (.int .i64 0), (.int .i64 0), (.bool false)]) 32 rfl Try.underlying23 info62 rfl (by decide) (by omega) v159 y158 l0_1 _ _ _ (fun _ => True) (fun _ => False) rfl rfl ?aO ?aR (fun _ _ h => h) (fun _ h => h.elim) ?aF ?aB ?aS ?aL ?_
   (case aR => repeat (first | exact (Kd.C_below HR0_1.out HB.out) | (with_reducible refine Kd.C_alloc ?_ _) | (with_reducible refine Kd.C_drewN ?_ _) | (with_reducible refine Kd.C_drew ?_)))
   (case aB => exact (qdk2_1 HB GE150 GE151))
   (case aF => exact (fun _ _ => trivial))
   (case aO => exact (qdk2_3 HO160))
   (case aS => exact (below_size (qdk2_1 HB GE150 GE151)))
   (case aL => have := LMc3.out; omega)
   intro v162 w13 ho hb hg hat
   rw [← Ny161.out] at ho
   have n0_ := Aside0.mk (blk_grown (g := gb150) (o := .cells #[.slice A0_0 l0_0.length c0_0, .slice A0_1 l0_1.length c0_1, .int .i64 a0_2] 25 (0, 0)) (qdk2_2 BK150) hg (Kd.R_ne HO160.out BK150.out (by decide)))
   have n1_ := Aside0.mk (blk_grown (g := gb151) (o := .cells #[.slice none 0 0, .slice none 0 0, .int .i64 0] 25 (0, 0)) (qdk2_2 BK151) hg (Kd.R_ne HO160.out BK151.out (by decide)))
   have n2_ := Aside0.mk (Kd.R_over' (qdk2_3 HO157) (Kd.R_typed (qdk2_3 HO160)) (by decide) hg)
   have n3_ := Aside0.mk (hb)
   have n4_ := Aside0.mk (ho)
   clear BK150 BK151 HO157 HB HO160
   have BK150 := n0_
   have BK151 := n1_
   have HO157 := n2_
   have HB := n3_
   have HO163 := n4_
   clear n0_ n1_ n2_ n3_ n4_ ho hb hg hat
   obtain ⟨Ao14, co14, eo14⟩ := Kd.R_slice HO163.out
   (first | subst eo14 | (injection eo14 with f1_ f2_ f3_; have f4_ := f1_.symm; have f5_ := f3_.symm; clear f1_ f2_ f3_; subst f4_; subst f5_))
   obtain ⟨Ao15, co15, eo15⟩ := Kd.R_slice HO157.out
   (first | subst eo15 | (injection eo15 with f1_ f2_ f3_; have f4_ := f1_.symm; have f5_ := f3_.symm; clear f1_ f2_ f3_; subst f4_; subst f5_))
   refine hK.out _ _ ⟨(blk_cell BK150.out 0).trans rfl, (blk_cell BK150.out 1).trans rfl, (blk_cell BK150.out 2).trans rfl⟩ (fun hHeld => ?_)
   clear hK K
   refine norm_ (a' := ?_) ?_ ?_
   rotate_left
   ·show Act.put _ (some 10) _ = _
    simp only [Act.put, List.setIfInBounds_toArray, List.set_cons_zero, List.set_cons_succ, i64_w, i32_w]
    rfl
   refine pure_ (i := 10) (N := some 13) (bs_ 12 2047) rfl rfl (any_of HT_.out (by kernel_rfl)) (fun _ _ _ h => h) (Or.inl ⟨by rfl, qpy_pdkx2⟩) qpa_pdkx2 ?_
   refine one_ (i := 11) (N := none) (bs_ 12 4095) rfl rfl (one_of HT_.out (by kernel_rfl)) (by decide) (fun K hK => ?_)
   have hs16 : w13.cell? ⟨gb151, 0, none⟩ = some (.slice none 0 0) := (blk_cell BK151.out 0).trans rfl
   have hfs16 := blk_frozen BK151.out 0
   have hns16_0 := NB150_151.out
   have hms16_0 := NB151_150.out
   have hs17 : w13.cell? ⟨gb151, 1, none⟩ = some (.slice none 0 0) := (blk_cell BK151.out 1).trans rfl
   have hfs17 := blk_frozen BK151.out 1
   have hns17_0 := NB150_151.out
   have hms17_0 := NB151_150.out
   have hs18 : w13.cell? ⟨gb151, 2, none⟩ = some (.int .i64 0) := (blk_cell BK151.out 2).trans rfl
   have hfs18 := blk_frozen BK151.out 2
   have hns18_0 := NB150_151.out
   have hms18_0 := NB151_150.out
   refine skip_ (w1 := ?_) (by rfl) rfl ?_ ?_
   rotate_left
   ·go_simp
    rfl
   refine hK.out _ _ ⟨((cell_far (p := ⟨gb151, _, none⟩) NB150_151.out _).trans (((cell_far (p := ⟨gb151, _, none⟩) NB150_151.out _).trans (((cell_far (p := ⟨gb151, _, none⟩) NB150_151.out _).trans (hHeld.1)))))), ((cell_far (p := ⟨gb151, _, none⟩) NB150_151.out _).trans (((cell_far (p := ⟨gb151, _, none⟩) NB150_151.out _).trans (((cell_far (p := ⟨gb151, _, none⟩) NB150_151.out _).trans (hHeld.2.1)))))), ((cell_far (p := ⟨gb151, _, none⟩) NB150_151.out _).trans (((cell_far (p := ⟨gb151, _, none⟩) NB150_151.out _).trans (((cell_far (p := ⟨gb151, _, none⟩) NB150_151.out _).trans (hHeld.2.2))))))⟩ (fun hHeld => ?_)
   clear hK K
   refine done_ (done_of HT_.out (by kernel_rfl)) ?_
   try go_wp2
   refine bodyPost_ret (results_cell_row rfl _ _ gb151 25 #[.slice Ao15 y155.length co15, .slice Ao14 y161.length co14, .int .i64 a0_2] (0, 0) _ rfl (by (with_reducible repeat (first | refine blk_drewN ?_ _ | refine blk_drew ?_ | refine blk_alloc ?_ _)); refine blk_put (cs := #[.slice Ao15 y155.length co15, .slice Ao14 y161.length co14, .int .i64 0]) ?_ 2 _ rfl; (with_reducible repeat (first | refine blk_drewN ?_ _ | refine blk_drew ?_ | refine blk_alloc ?_ _)); refine blk_put (cs := #[.slice Ao15 y155.length co15, .slice none 0 0, .int .i64 0]) ?_ 1 _ rfl; (with_reducible repeat (first | refine blk_drewN ?_ _ | refine blk_drew ?_ | refine blk_alloc ?_ _)); refine blk_put (cs := #[.slice none 0 0, .slice none 0 0, .int .i64 0]) ?_ 0 _ rfl; (with_reducible repeat (first | refine blk_drewN ?_ _ | refine blk_drew ?_ | refine blk_alloc ?_ _)); exact BK151.out) Try.underlying25 rfl (by kernel_rfl)) rfl ?_
   exact ⟨_, _, (by first | rfl | (simp [errW_none, errW_some] <;> rfl) | (simp [*, errW_none, errW_some] <;> rfl)), (rdk2_1 HO157 BK151), (rdk2_1 HO163 BK151), (by repeat (first | (with_reducible first | exact HB.out | apply below_alloc | apply pw_below_drewN | apply below_drew1 | refine below_set ?_ GE150.out | refine below_set ?_ GE151.out) | exact HB.out))⟩
  rw [if_neg c3] at H
  exact absurd H (by simp)
 rw [if_neg c2] at H
 exact absurd H (by simp)
end Go.Proofs.Ytohilfkdfcihgaa.PDi
