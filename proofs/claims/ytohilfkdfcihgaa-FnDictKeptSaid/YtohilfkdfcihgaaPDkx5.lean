/- Go functions as Lean functions, and that each Go function comes to just that; printed by a program of this session (gprint.py over the kit's print.py). No condition. -/
import Derived.Test.YtohilfkdfcihgaaPDky0
import Derived.Test.YtohilfkdfcihgaaPDkx1
import Derived.Test.YtohilfkdfcihgaaPDkx3
import Derived.Test.YtohilfkdfcihgaaPDkx4
namespace Go.Proofs.Ytohilfkdfcihgaa.PDi
open Go.RowKit Go.Proofs.YtohilfkdfcihgaaW.PrintWords Go.Proofs.YtohilfkdfcihgaaW.PrintLast Go.Proofs.YtohilfkdfcihgaaW.PrintMore
attribute [local go_sem] max2_int min2_int max_two min_two max_three min_three max_four min_four   -- for this text's walks alone
set_option linter.unusedVariables false
set_option linter.unusedSimpArgs false
theorem hbc_pdkx5 {w w1 : World} {a : Addr} {v : Value} (hb : Below w.heap.size w w1) (h : w.cell? a = some v) : w1.cell? a = some v := (hb.cell (World.block_lt_of_cell? _ _ h)).trans h
theorem qpa_pdkx5 {P : Prop} (h : P := by simp only [Act.put, List.setIfInBounds_toArray, List.set_cons_zero, List.set_cons_succ, i64_w, i32_w]; rfl) : P := h
theorem qnl_pdkx5 {w : World} {g n : Nat} {cs : Array Value} {t : TypeId} {fr : Nat × Nat} {Q : Prop} (y : Q) (hg : n = w.heap.size) (h : Q → w.heap[g]? = some (.cells cs t fr) := by intro y_; (with_reducible repeat (first | refine blk_drewN ?_ _ | refine blk_drew ?_ | refine blk_alloc ?_ _)); exact y_.out) : g ≠ n := by
  rw [hg]; exact Nat.ne_of_lt (blk_lt (h y))
theorem qng_pdkx5 {w : World} {g n : Nat} {cs : Array Value} {t : TypeId} {fr : Nat × Nat} {Q : Prop} (y : Q) (hg : n = w.heap.size) (h : Q → w.heap[g]? = some (.cells cs t fr) := by intro y_; (with_reducible repeat (first | refine blk_drewN ?_ _ | refine blk_drew ?_ | refine blk_alloc ?_ _)); exact y_.out) : n ≠ g := by
  rw [hg]; exact Nat.ne_of_gt (blk_lt (h y))
theorem qpy_pdkx5 {P : Prop} (h : P := by intro w'; go_simp; with_reducible rfl) : P := h
theorem qpt15_pdkx5 {P : Prop} (h : P := by rintro w' ⟨s0, s1, s2, s3, s4, s5, s6, s7, s8, s9, s10, s11, s12, s13, s14⟩; go_simp; with_reducible rfl) : P := h
theorem qpt11_pdkx5 {P : Prop} (h : P := by rintro w' ⟨s0, s1, s2, s3, s4, s5, s6, s7, s8, s9, s10⟩; go_simp; with_reducible rfl) : P := h
theorem rdk5_1 {P Q0 Q1 Q2 : Prop} (y0 : Q0) (y1 : Q1) (y2 : Q2) (h : Q0 → Q1 → Q2 → P := by intro y0_ y1_ y2_; (with_reducible repeat (first | apply Kd.R_alloc | apply Kd.R_drewN | apply Kd.R_drew)); exact Kd.R_mono (Kd.R_far (p := ⟨gb216, 2, none⟩) (Kd.R_far (p := ⟨gb216, 1, none⟩) (Kd.R_far (p := ⟨gb216, 0, none⟩) (Kd.R_far (p := ⟨gb232, 2, none⟩) (Kd.R_far (p := ⟨gb232, 1, none⟩) (Kd.R_far (p := ⟨gb232, 0, none⟩) (Kd.R_types (Kd.R_types y0_.out y1_.out (by decide)) y2_.out (by decide)) (fun _ hk => hk.1.2) (.slice Ao24 t224.length co24)) (fun _ hk => hk.1.2) (.slice Ao26 t227.length co26)) (fun _ hk => hk.1.2) (.int .i64 t230)) (fun _ hk => hk.2) (.slice Ao24 t224.length co24)) (fun _ hk => hk.2) (.slice Ao26 t227.length co26)) (fun _ hk => hk.2) (.int .i64 t230)) (fun _ hk => trivial)) : P := h y0 y1 y2
theorem rdk5_2 {P Q0 Q1 Q2 : Prop} (y0 : Q0) (y1 : Q1) (y2 : Q2) (h : Q0 → Q1 → Q2 → P := by intro y0_ y1_ y2_; (with_reducible repeat (first | apply Kd.R_alloc | apply Kd.R_drewN | apply Kd.R_drew)); exact Kd.R_mono (Kd.R_far (p := ⟨gb216, 2, none⟩) (Kd.R_far (p := ⟨gb216, 1, none⟩) (Kd.R_far (p := ⟨gb216, 0, none⟩) (Kd.R_far (p := ⟨gb244, 2, none⟩) (Kd.R_far (p := ⟨gb244, 1, none⟩) (Kd.R_far (p := ⟨gb244, 0, none⟩) (Kd.R_types (Kd.R_types y0_.out y1_.out (by decide)) y2_.out (by decide)) (fun _ hk => hk.1.2) (.slice Ao44 t236.length co44)) (fun _ hk => hk.1.2) (.slice Ao46 t239.length co46)) (fun _ hk => hk.1.2) (.int .i64 t242)) (fun _ hk => hk.2) (.slice Ao44 t236.length co44)) (fun _ hk => hk.2) (.slice Ao46 t239.length co46)) (fun _ hk => hk.2) (.int .i64 t242)) (fun _ hk => trivial)) : P := h y0 y1 y2
theorem rdk5_3 {P Q0 Q1 Q2 : Prop} (y0 : Q0) (y1 : Q1) (y2 : Q2) (h : Q0 → Q1 → Q2 → P := by intro y0_ y1_ y2_; (with_reducible repeat (first | refine blk_drewN ?_ _ | refine blk_drew ?_ | refine blk_alloc ?_ _)); refine blk_far ?_ y0_.out _; (with_reducible repeat (first | refine blk_drewN ?_ _ | refine blk_drew ?_ | refine blk_alloc ?_ _)); refine blk_far ?_ y0_.out _; (with_reducible repeat (first | refine blk_drewN ?_ _ | refine blk_drew ?_ | refine blk_alloc ?_ _)); refine blk_far ?_ y0_.out _; (with_reducible repeat (first | refine blk_drewN ?_ _ | refine blk_drew ?_ | refine blk_alloc ?_ _)); refine blk_far ?_ y1_.out _; (with_reducible repeat (first | refine blk_drewN ?_ _ | refine blk_drew ?_ | refine blk_alloc ?_ _)); refine blk_far ?_ y1_.out _; (with_reducible repeat (first | refine blk_drewN ?_ _ | refine blk_drew ?_ | refine blk_alloc ?_ _)); refine blk_far ?_ y1_.out _; (with_reducible repeat (first | refine blk_drewN ?_ _ | refine blk_drew ?_ | refine blk_alloc ?_ _)); exact y2_.out) : P := h y0 y1 y2
theorem rdk5_4 {P Q0 Q1 : Prop} (y0 : Q0) (y1 : Q1) (h : Q0 → Q1 → P := by intro y0_ y1_; (with_reducible repeat (first | apply Kd.R_alloc | apply Kd.R_drewN | apply Kd.R_drew)); exact Kd.R_mono (Kd.R_far (p := ⟨gb208, 2, none⟩) (Kd.R_far (p := ⟨gb208, 1, none⟩) (Kd.R_far (p := ⟨gb208, 0, none⟩) (Kd.R_types y0_.out y1_.out (by decide)) (fun _ hk => hk.2) (.slice Ao60 x217000_1.length co60)) (fun _ hk => hk.2) (.slice Ao63 x217001_1.length co63)) (fun _ hk => hk.2) (.int .i64 x217002_1)) (fun _ hk => trivial)) : P := h y0 y1
theorem qdk5_1 {P Q0 Q1 : Prop} (y0 : Q0) (y1 : Q1) (h : Q0 → Q1 → P := by intro y0_ y1_; first | exact Kd.own_blk (Kd.R_ne y0_.out y1_.out (by decide)) | (rw [add_block]; exact Kd.own_blk (Kd.R_ne y0_.out y1_.out (by decide))) | (show (Addr.add _ _).block ≠ _; rw [add_block]; exact Kd.own_blk (Kd.R_ne y0_.out y1_.out (by decide))) | (dsimp only; exact Kd.own_blk (Kd.R_ne y0_.out y1_.out (by decide)))) : P := h y0 y1
theorem qdk5_2 {P Q0 : Prop} (y0 : Q0) (h : Q0 → P := by intro y0_; (with_reducible repeat (first | refine blk_drewN ?_ _ | refine blk_drew ?_ | refine blk_alloc ?_ _)); exact y0_.out) : P := h y0
theorem qdk5_3 {P Q0 : Prop} (y0 : Q0) (h : Q0 → P := by intro y0_; (with_reducible repeat (first | apply Kd.R_alloc | apply Kd.R_drewN | apply Kd.R_drew)); exact y0_.out) : P := h y0
theorem qdk5_4 {P Q0 Q1 Q2 : Prop} (y0 : Q0) (y1 : Q1) (y2 : Q2) (h : Q0 → Q1 → Q2 → P := by intro y0_ y1_ y2_; repeat (first | (with_reducible first | exact y0_.out | apply KeepBut.set_ | apply keep_drewN | apply keep_drew | apply keep_alloc | refine keep_far ?_ y1_.out _ | refine keep_far ?_ y2_.out _) | exact y0_.out)) : P := h y0 y1 y2
theorem qdk5_5 {P Q0 Q1 Q2 Q3 : Prop} (y0 : Q0) (y1 : Q1) (y2 : Q2) (y3 : Q3) (h : Q0 → Q1 → Q2 → Q3 → P := by intro y0_ y1_ y2_ y3_; repeat (first | (with_reducible first | exact y0_.out | apply KeepBut.set_ | apply keep_drewN | apply keep_drew | apply keep_alloc | refine keep_far ?_ y1_.out _ | refine keep_far ?_ y2_.out _ | refine keep_far ?_ y3_.out _) | exact y0_.out)) : P := h y0 y1 y2 y3
theorem qdk5_6 {P Q0 : Prop} (y0 : Q0) (h : Q0 → P := by intro y0_; (with_reducible repeat (first | apply Kd.R_alloc | apply Kd.R_drewN | apply Kd.R_drew)); exact Kd.R_mono y0_.out (fun _ hk => hk.2)) : P := h y0
theorem qdk5_7 {P Q0 Q1 Q2 : Prop} (y0 : Q0) (y1 : Q1) (y2 : Q2) (h : Q0 → Q1 → Q2 → P := by intro y0_ y1_ y2_; repeat (first | (with_reducible first | exact y0_.out | apply below_alloc | apply pw_below_drewN | apply below_drew1 | refine below_set ?_ (IsS94.ge HI0.out) | refine below_set ?_ y1_.out | refine below_set ?_ y2_.out) | exact y0_.out)) : P := h y0 y1 y2
theorem qdk5_8 {P Q0 Q1 : Prop} (y0 : Q0) (y1 : Q1) (h : Q0 → Q1 → P := by intro y0_ y1_; repeat (first | (with_reducible first | exact HI0.out | apply IsS94.alloc | apply IsS94.drewN | apply IsS94.drew | apply IsS94.set_1 | refine IsS94.far ?_ y0_.out _ | refine IsS94.far ?_ y1_.out _) | exact HI0.out)) : P := h y0 y1
theorem qdk5_9 {P Q0 : Prop} (y0 : Q0) (h : Q0 → P := by intro y0_; repeat (first | exact (Kd.R_reads' y0_.out).2.2 | (with_reducible refine Kd.C_alloc ?_ _) | (with_reducible refine Kd.C_drewN ?_ _) | (with_reducible refine Kd.C_drew ?_))) : P := h y0
theorem qdk5_10 {P Q0 Q1 Q2 Q3 : Prop} (y0 : Q0) (y1 : Q1) (y2 : Q2) (y3 : Q3) (h : Q0 → Q1 → Q2 → Q3 → P := by intro y0_ y1_ y2_ y3_; repeat (first | (with_reducible first | exact y0_.out | apply below_alloc | apply pw_below_drewN | apply below_drew1 | refine below_set ?_ (IsS94.ge HI0.out) | refine below_set ?_ y1_.out | refine below_set ?_ y2_.out | refine below_set ?_ y3_.out) | exact y0_.out)) : P := h y0 y1 y2 y3
theorem qdk5_11 {P Q0 Q1 Q2 : Prop} (y0 : Q0) (y1 : Q1) (y2 : Q2) (h : Q0 → Q1 → Q2 → P := by intro y0_ y1_ y2_; repeat (first | (with_reducible first | exact HI0.out | apply IsS94.alloc | apply IsS94.drewN | apply IsS94.drew | apply IsS94.set_1 | refine IsS94.far ?_ y0_.out _ | refine IsS94.far ?_ y1_.out _ | refine IsS94.far ?_ y2_.out _) | exact HI0.out)) : P := h y0 y1 y2
theorem qdk5_12 {P Q0 Q1 : Prop} (y0 : Q0) (y1 : Q1) (h : Q0 → Q1 → P := by intro y0_ y1_; repeat (first | (with_reducible first | exact y0_.out | apply KeepBut.set_ | apply keep_drewN | apply keep_drew | apply keep_alloc | refine keep_far ?_ y1_.out _) | exact y0_.out)) : P := h y0 y1
theorem qdk5_13 {P : Prop} (h : P := by (try simp only [List.map_toArray, List.map_cons, List.map_nil]); first | done | rfl | (simp only [List.length_drop, List.length_take]; rfl)) : P := h
theorem qdk5_14 {P : Prop} (h : P := by first | (with_reducible assumption) | assumption) : P := h
theorem qdk5_15 {P : Prop} (h : P := by kernel_rfl) : P := h
theorem qdk5_16 {P Q0 Q1 : Prop} (y0 : Q0) (y1 : Q1) (h : Q0 → Q1 → P := by intro y0_ y1_; (with_reducible repeat (first | apply Kd.R_alloc | apply Kd.R_drewN | apply Kd.R_drew)); exact (Kd.R_mono (Kd.R_far (p := ⟨gb216, 2, none⟩) (Kd.R_far (p := ⟨gb216, 1, none⟩) (Kd.R_far (p := ⟨gb216, 0, none⟩) (Kd.R_types y0_.out y1_.out (by decide)) (fun _ hk => hk.2) (.slice Ao7 t209.length co7)) (fun _ hk => hk.2) (.slice Ao11 t212.length co11)) (fun _ hk => hk.2) (.int .i64 t215)) (fun _ h_ => h_.1))) : P := h y0 y1
theorem qdk5_17 {P : Prop} (h : P := by simp only [putAll, Act.put, List.setIfInBounds_toArray, List.set_cons_zero, List.set_cons_succ]) : P := h
theorem qdk5_18 {P Q0 : Prop} (y0 : Q0) (h : Q0 → P := by intro y0_; repeat (first | (with_reducible first | exact y0_.out | apply KeepBut.set_ | apply keep_drewN | apply keep_drew | apply keep_alloc) | exact y0_.out)) : P := h y0
def spec_l7Draw.l0 : Nat → List (S37) → Int → List Int → Int → List Int → List (S62) → Int → Option (List Int × (List (S62)) × Int × Int)
 | 0, _, _, _, _, _, _, _ => none
 | k + 1, x4, x5, x1000, x1001, x217000, x217001, x217002 => if x5 < (x4.length : Int) then (if 0 ≤ x5 then (if ((rd_T37 x4 x5).f0) = 3 then ((spec_l7Cut.f k x217000 x217001 x217002 ((rd_T37 x4 x5).f1) ((rd_T37 x4 x5).f2)).bind fun bt224 => (spec_l7Draw.l0 k x4 (wrap64 (x5 + 1)) x1000 x1001 bt224.1 bt224.2.1 bt224.2.2.1)) else ((spec_l7Put.f k x217000 x217001 x217002 ((rd_T37 x4 x5).f1) ((rd_T37 x4 x5).f2) ((rd_T37 x4 x5).f3)).bind fun bt236 => (spec_l7Draw.l0 k x4 (wrap64 (x5 + 1)) x1000 x1001 bt236.1 bt236.2.1 bt236.2.2.1))) else (none)) else (some (x217000, x217001, x217002, x1001))
def spec_l7Draw.f (k : Nat) (s0_0 : List Int) (s0_1 : Int) : Option (List Int × (List (S62)) × Int × Int) := (spec_NewDict.f k).bind fun bt209 => ((spec_l7DrawOps.f k s0_0 s0_1 40).bind fun bt217 => (spec_l7Draw.l0 k bt217.1 0 s0_0 bt217.2 bt209.1 bt209.2.1 bt209.2.2))
def spec_l7Draw.T7 : Bool × List (List Nat × List Nat) := (true, [([], []), ([], []), ([], []), ([1, 2], [1, 2]), ([3], [3]), ([4], [4]), ([], []), ([], []), ([6, 7], [6, 7]), ([8], [8]), ([9], [9]), ([0, 5, 10], [0, 5, 10]), ([11], [11]), ([12], [12]), ([12], [12]), ([], []), ([15, 13, 11, 0, 1, 2, 3, 4, 5, 6, 7, 8, 9, 10, 11, 12, 13, 15], [13, 15]), ([14, 16, 0, 1, 2, 3, 4, 5, 6, 7, 8, 9, 10, 11, 12, 13, 14, 15, 16], [14])])
def spec_l7Draw.B7 : List Nat := [0, 0, 0, 6, 14, 30, 0, 0, 192, 448, 960, 2047, 4095, 8191, 8191, 0, 49151, 131071]
theorem spec_l7Draw.tab7 : rtab .any (opsOf Try.f77 7) = spec_l7Draw.T7 := by kernel_rfl
theorem spec_l7Draw.bits7 : waitsOk spec_l7Draw.T7.2 spec_l7Draw.B7 = true := by kernel_rfl
def spec_l7Draw.T9 : Bool × List (List Nat × List Nat) := (true, [([], []), ([], []), ([], []), ([1, 2], [1, 2]), ([3], [3]), ([4], [4]), ([], []), ([], []), ([6, 7], [6, 7]), ([8], [8]), ([9], [9]), ([], []), ([], []), ([11, 12], [11, 12]), ([13], [13]), ([14], [14]), ([0, 5, 10, 15], [0, 5, 10, 15]), ([16], [16]), ([17], [17]), ([17], [17]), ([], []), ([20, 18, 16, 0, 1, 2, 3, 4, 5, 6, 7, 8, 9, 10, 11, 12, 13, 14, 15, 16, 17, 18, 20], [18, 20]), ([19, 21, 0, 1, 2, 3, 4, 5, 6, 7, 8, 9, 10, 11, 12, 13, 14, 15, 16, 17, 18, 19, 20, 21], [19])])
def spec_l7Draw.B9 : List Nat := [0, 0, 0, 6, 14, 30, 0, 0, 192, 448, 960, 0, 0, 6144, 14336, 30720, 65535, 131071, 262143, 262143, 0, 1572863, 4194303]
theorem spec_l7Draw.tab9 : rtab .any (opsOf Try.f77 9) = spec_l7Draw.T9 := by kernel_rfl
theorem spec_l7Draw.bits9 : waitsOk spec_l7Draw.T9.2 spec_l7Draw.B9 = true := by kernel_rfl
set_option maxHeartbeats 8000000 in
set_option maxRecDepth 100000 in
theorem spec_l7Draw.calls (k : Nat) (g : Nat) (s0_0 : List Int) (s0_1 : Int) (r1 : List Int) (r2 : List (S62)) (r3 : Int) (r4 : Int) (w0 w : World) (hI : IsS94 w0 w g s0_0 s0_1) (hB : Below w0.heap.size w0 w) (h : spec_l7Draw.f k s0_0 s0_1 = some (r1, r2, r3, r4)) :
  Calls Try.prog 77 #[.pointer (some ⟨g, 0, none⟩)] w fun e w' => ∃ v0_ v1_ : Value, e = .returned (.agg #[v0_, v1_, .int .i64 r3]) ∧ Kd.R (Kd.int .i64) 2 w' w.heap.size (fun _ => True) v0_ r1 ∧ Kd.R k62 62 w' w.heap.size (fun _ => True) v1_ r2 ∧ IsS94 w0 w' g s0_0 r4 ∧ Below w0.heap.size w0 w' ∧ KeepBut w w' g none := by
 have hu25 := Try.underlying25
 have HI0 := Aside0.mk hI
 have HK := Aside0.mk (KeepBut.refl w g none)
 have HL := Aside0.mk hB.size
 clear hI
 have HW0 := Aside0.mk hB.size
 have HB := Aside0.mk hB
 clear hB
 have H : ((spec_NewDict.f k).bind fun bt209 => ((spec_l7DrawOps.f k s0_0 s0_1 40).bind fun bt217 => (spec_l7Draw.l0 k bt217.1 0 s0_0 bt217.2 bt209.1 bt209.2.1 bt209.2.2))) = some (r1, r2, r3, r4) := h
 clear h
 replace H := Option.bind_eq_some_iff.mp H
 obtain ⟨⟨t209, t212, t215⟩, A20, H⟩ := H
 replace H : ((spec_l7DrawOps.f k s0_0 s0_1 40).bind fun bt217 => (spec_l7Draw.l0 k bt217.1 0 s0_0 bt217.2 t209 t212 t215)) = some (r1, r2, r3, r4) := H
 have A2 := Aside0.mk A20
 clear A20
 replace H := Option.bind_eq_some_iff.mp H
 obtain ⟨⟨t217, t220⟩, A30, H⟩ := H
 replace H : (spec_l7Draw.l0 k t217 0 s0_0 t220 t209 t212 t215) = some (r1, r2, r3, r4) := H
 have A3 := Aside0.mk A30
 clear A30
 have H' := Aside0.mk H
 clear H
 go_enter Try.func77, Try.ntmps77
 go_wp2_with (first | ((with_reducible refine gate_dst (N := 2) rfl ?_); refine box_event ?hg (N := 2) ?hd (cs := #[.slice none 0 0, .slice none 0 0, .int .i64 0]) (t := 25) ?hr ?_; (case hd => rfl); (case hg => rfl); (case hr => exact (by first | (go_simp; done) | (go_simp; rfl))); intro gb208 hg w4 hbox hb; have n0_ := Aside0.mk (IsS94.below (by repeat (first | (with_reducible first | exact HI0.out | apply IsS94.alloc | apply IsS94.drewN | apply IsS94.drew | apply IsS94.set_1) | exact HI0.out)) hb); have n1_ := Aside0.mk (KeepBut.trans (qdk5_18 HK) (KeepBut.of_below hb g none) (.inl rfl)); have n2_ := Aside0.mk (below_step (by repeat (first | (with_reducible first | exact HB.out | apply below_alloc | apply pw_below_drewN | apply below_drew1 | refine below_set ?_ (IsS94.ge HI0.out)) | exact HB.out)) hb); have n3_ := Aside0.mk (hbox); have n4_ := Aside0.mk ((by rw [hg]; exact (keep_size (w := w) (g := g) (row := none) (qdk5_18 HK)) : w.heap.size ≤ gb208)); have n5_ := Aside0.mk ((Nat.le_trans HW0.out (by rw [hg]; exact (keep_size (w := w) (g := g) (row := none) (qdk5_18 HK)) : w.heap.size ≤ gb208) : w0.heap.size ≤ gb208)); have n6_ := Aside0.mk ((by rw [hg]; exact Nat.ne_of_lt (IsS94.lt (show IsS94 w0 _ g s0_0 s0_1 from by repeat (first | (with_reducible first | exact HI0.out | apply IsS94.alloc | apply IsS94.drewN | apply IsS94.drew | apply IsS94.set_1) | exact HI0.out))) : g ≠ gb208)); have n7_ := Aside0.mk ((by rw [hg]; exact Nat.ne_of_gt (IsS94.lt (show IsS94 w0 _ g s0_0 s0_1 from by repeat (first | (with_reducible first | exact HI0.out | apply IsS94.alloc | apply IsS94.drewN | apply IsS94.drew | apply IsS94.set_1) | exact HI0.out))) : gb208 ≠ g)); clear HI0 HK HB; have HI0 := n0_; have HK := n1_; have HB := n2_; have BK208 := n3_; have GW208 := n4_; have GE208 := n5_; have NB0_208 := n6_; have NB208_0 := n7_; clear n0_ n1_ n2_ n3_ n4_ n5_ n6_ n7_; clear hb hbox hg) | ((with_reducible refine gate_callee (f := 11) rfl ?_); refine goesL_ (some 10) rfl rfl Try.func11 qdk5_15 rfl #[] rfl qdk5_13 ?_; (with_reducible refine (spec_NewDict.calls k  t209 t212 t215 _ A2.out).mono ?_); rintro e w5 ⟨v210, v213, rfl, ho0, ho1, hb⟩; refine ⟨_, rfl, ?_⟩; have n0_ := Aside0.mk (Kd.R_lower ho0 (keep_size (w := w) (g := g) (row := none) (qdk5_12 HK GW208))); have n1_ := Aside0.mk (Kd.R_lower ho1 (keep_size (w := w) (g := g) (row := none) (qdk5_12 HK GW208))); have n2_ := Aside0.mk (IsS94.below (by repeat (first | (with_reducible first | exact HI0.out | apply IsS94.alloc | apply IsS94.drewN | apply IsS94.drew | apply IsS94.set_1 | refine IsS94.far ?_ NB0_208.out _) | exact HI0.out)) hb); have n3_ := Aside0.mk (blk_below (qdk5_2 BK208) hb); have n4_ := Aside0.mk (KeepBut.trans (qdk5_12 HK GW208) (KeepBut.of_below hb g none) (.inl rfl)); have n5_ := Aside0.mk (below_step (by repeat (first | (with_reducible first | exact HB.out | apply below_alloc | apply pw_below_drewN | apply below_drew1 | refine below_set ?_ (IsS94.ge HI0.out) | refine below_set ?_ GE208.out) | exact HB.out)) hb); clear HI0 BK208 HK HB; have HO211 := n0_; have HO214 := n1_; have HI0 := n2_; have BK208 := n3_; have HK := n4_; have HB := n5_; clear n0_ n1_ n2_ n3_ n4_ n5_; (try clear hb); (try clear hb2); (try clear hk); (try clear hi); (try clear ho0); (try clear ho1)) | ((with_reducible refine gate_dst (N := 3) rfl ?_); refine box_event ?hg (N := 3) ?hd (cs := #[.slice none 0 0, .slice none 0 0, .int .i64 0]) (t := 25) ?hr ?_; (case hd => rfl); (case hg => rfl); (case hr => exact (by first | (go_simp; done) | (go_simp; rfl))); intro gb216 hg w6 hbox hb; have n0_ := Aside0.mk (Kd.R_below (qdk5_3 HO211) hb); have n1_ := Aside0.mk (Kd.R_below (qdk5_3 HO214) hb); have n2_ := Aside0.mk (IsS94.below (by repeat (first | (with_reducible first | exact HI0.out | apply IsS94.alloc | apply IsS94.drewN | apply IsS94.drew | apply IsS94.set_1 | refine IsS94.far ?_ NB0_208.out _) | exact HI0.out)) hb); have n3_ := Aside0.mk (blk_below (qdk5_2 BK208) hb); have n4_ := Aside0.mk (KeepBut.trans (qdk5_12 HK GW208) (KeepBut.of_below hb g none) (.inl rfl)); have n5_ := Aside0.mk (below_step (by repeat (first | (with_reducible first | exact HB.out | apply below_alloc | apply pw_below_drewN | apply below_drew1 | refine below_set ?_ (IsS94.ge HI0.out) | refine below_set ?_ GE208.out) | exact HB.out)) hb); have n6_ := Aside0.mk (hbox); have n7_ := Aside0.mk ((by rw [hg]; exact (keep_size (w := w) (g := g) (row := none) (qdk5_12 HK GW208)) : w.heap.size ≤ gb216)); have n8_ := Aside0.mk ((Nat.le_trans HW0.out (by rw [hg]; exact (keep_size (w := w) (g := g) (row := none) (qdk5_12 HK GW208)) : w.heap.size ≤ gb216) : w0.heap.size ≤ gb216)); have n9_ := Aside0.mk ((qnl_pdkx5 BK208 hg : gb208 ≠ gb216)); have n10_ := Aside0.mk ((qng_pdkx5 BK208 hg : gb216 ≠ gb208)); have n11_ := Aside0.mk ((by rw [hg]; exact Nat.ne_of_lt (IsS94.lt (show IsS94 w0 _ g s0_0 s0_1 from by repeat (first | (with_reducible first | exact HI0.out | apply IsS94.alloc | apply IsS94.drewN | apply IsS94.drew | apply IsS94.set_1 | refine IsS94.far ?_ NB0_208.out _) | exact HI0.out))) : g ≠ gb216)); have n12_ := Aside0.mk ((by rw [hg]; exact Nat.ne_of_gt (IsS94.lt (show IsS94 w0 _ g s0_0 s0_1 from by repeat (first | (with_reducible first | exact HI0.out | apply IsS94.alloc | apply IsS94.drewN | apply IsS94.drew | apply IsS94.set_1 | refine IsS94.far ?_ NB0_208.out _) | exact HI0.out))) : gb216 ≠ g)); clear HO211 HO214 HI0 BK208 HK HB; have HO211 := n0_; have HO214 := n1_; have HI0 := n2_; have BK208 := n3_; have HK := n4_; have HB := n5_; have BK216 := n6_; have GW216 := n7_; have GE216 := n8_; have NB208_216 := n9_; have NB216_208 := n10_; have NB0_216 := n11_; have NB216_0 := n12_; clear n0_ n1_ n2_ n3_ n4_ n5_ n6_ n7_ n8_ n9_ n10_ n11_ n12_; clear hb hbox hg; obtain ⟨Ao7, co7, eo7⟩ := Kd.R_slice HO211.out; subst eo7; have hnb8 := NB216_208.out; have hnc8 := NB208_216.out; have hnb9 := NB216_0.out; have hnc9 := NB0_216.out; have hcz10_0 : w6.cell? ⟨gb216, 0, none⟩ = some (.slice none 0 0) := (blk_cell BK216.out 0).trans rfl; have hcz10_1 : w6.cell? ⟨gb216, 1, none⟩ = some (.slice none 0 0) := (blk_cell BK216.out 1).trans rfl; have hcz10_2 : w6.cell? ⟨gb216, 2, none⟩ = some (.int .i64 0) := (blk_cell BK216.out 2).trans rfl; have hfz10_0 := blk_frozen BK216.out 0; have hfz10_1 := blk_frozen BK216.out 1; have hfz10_2 := blk_frozen BK216.out 2; obtain ⟨Ao11, co11, eo11⟩ := Kd.R_slice HO214.out; subst eo11) | ((with_reducible refine gate_callee (f := 45) rfl ?_); refine goesL_ (some 12) rfl rfl Try.func45 qdk5_15 rfl #[.pointer (some ⟨g, 0, none⟩), .int .i64 40] rfl qdk5_13 ?_; (with_reducible refine (spec_l7DrawOps.calls k g s0_0 s0_1 40 t217 t220 w0 _ ?side1 ?side2 A3.out).mono ?_); (case side1 => exact (qdk5_8 NB0_208 NB0_216)); (case side2 => exact (qdk5_7 HB GE208 GE216)); rintro e w12 ⟨v218, rfl, ho0, hi, hb, hk⟩; refine ⟨_, rfl, ?_⟩; have n0_ := Aside0.mk (KeepBut.blk hk (g' := gb208) (o := .cells #[.slice none 0 0, .slice none 0 0, .int .i64 0] 25 (0, 0)) (by (with_reducible repeat (first | refine blk_drewN ?_ _ | refine blk_drew ?_ | refine blk_alloc ?_ _)); refine blk_far ?_ NB208_216.out _; (with_reducible repeat (first | refine blk_drewN ?_ _ | refine blk_drew ?_ | refine blk_alloc ?_ _)); refine blk_far ?_ NB208_216.out _; (with_reducible repeat (first | refine blk_drewN ?_ _ | refine blk_drew ?_ | refine blk_alloc ?_ _)); refine blk_far ?_ NB208_216.out _; (with_reducible repeat (first | refine blk_drewN ?_ _ | refine blk_drew ?_ | refine blk_alloc ?_ _)); exact BK208.out) NB208_0.out (by simp)); have n1_ := Aside0.mk (Kd.R_mono (Kd.R_keep (IsS94.apart (show IsS94 w0 _ g s0_0 s0_1 from by repeat (first | (with_reducible first | exact HI0.out | apply IsS94.alloc | apply IsS94.drewN | apply IsS94.drew | apply IsS94.set_1 | refine IsS94.far ?_ NB0_208.out _ | refine IsS94.far ?_ NB0_216.out _) | exact HI0.out)) (qdk5_16 HO211 BK216) (by decide)) hk (fun _ h => h.2)) (fun _ h => h.1)); have n2_ := Aside0.mk (Kd.R_mono (Kd.R_keep (IsS94.apart (show IsS94 w0 _ g s0_0 s0_1 from by repeat (first | (with_reducible first | exact HI0.out | apply IsS94.alloc | apply IsS94.drewN | apply IsS94.drew | apply IsS94.set_1 | refine IsS94.far ?_ NB0_208.out _ | refine IsS94.far ?_ NB0_216.out _) | exact HI0.out)) (qdk5_16 HO214 BK216) (by decide)) hk (fun _ h => h.2)) (fun _ h => h.1)); have n3_ := Aside0.mk (KeepBut.blk hk (g' := gb216) (o := .cells #[.slice Ao7 t209.length co7, .slice Ao11 t212.length co11, .int .i64 t215] 25 (0, 0)) (by (with_reducible repeat (first | refine blk_drewN ?_ _ | refine blk_drew ?_ | refine blk_alloc ?_ _)); refine blk_put (cs := #[.slice Ao7 t209.length co7, .slice Ao11 t212.length co11, .int .i64 0]) ?_ 2 _ rfl; (with_reducible repeat (first | refine blk_drewN ?_ _ | refine blk_drew ?_ | refine blk_alloc ?_ _)); refine blk_put (cs := #[.slice Ao7 t209.length co7, .slice none 0 0, .int .i64 0]) ?_ 1 _ rfl; (with_reducible repeat (first | refine blk_drewN ?_ _ | refine blk_drew ?_ | refine blk_alloc ?_ _)); refine blk_put (cs := #[.slice none 0 0, .slice none 0 0, .int .i64 0]) ?_ 0 _ rfl; (with_reducible repeat (first | refine blk_drewN ?_ _ | refine blk_drew ?_ | refine blk_alloc ?_ _)); exact BK216.out) NB216_0.out (by simp)); have n4_ := Aside0.mk (Kd.R_lower ho0 (keep_size (w := w) (g := g) (row := none) (qdk5_4 HK GW208 GW216))); have n5_ := Aside0.mk (KeepBut.trans (qdk5_4 HK GW208 GW216) hk (.inl rfl)); have n6_ := Aside0.mk (hb); have n7_ := Aside0.mk (hi); clear BK208 HO211 HO214 BK216 HK HB HI0; have BK208 := n0_; have HO211 := n1_; have HO214 := n2_; have BK216 := n3_; have HO219 := n4_; have HK := n5_; have HB := n6_; have HI0 := n7_; clear n0_ n1_ n2_ n3_ n4_ n5_ n6_ n7_; (try clear hb); (try clear hb2); (try clear hk); (try clear hi); (try clear ho0)))
 go_loopg [5] k (fun kq v5 w' => ∃ (x5_1 : Int) (x217000_1 : List Int) (x217001_1 : List (S62)) (x217002_1 : Int) (u217000 : Value) (u217001 : Value), v5 = .int .i64 x5_1 ∧ Aside0 (spec_l7Draw.l0 kq t217 x5_1 s0_0 t220 x217000_1 x217001_1 x217002_1 = some (r1, r2, r3, r4)) ∧ Aside0 (kq ≤ k) ∧ Aside0 (Kd.R k37 37 w' w.heap.size (fun _ => True) v218 t217) ∧ Aside0 (Kd.R (Kd.int .i64) 2 w' w.heap.size (fun _ => True) u217000 x217000_1) ∧ Aside0 (Kd.R k62 62 w' w.heap.size (fun _ => True) u217001 x217001_1) ∧ Aside0 (w'.heap[gb208]? = some (.cells #[(.slice none 0 0), (.slice none 0 0), .int .i64 0] 25 (0, 0))) ∧ Aside0 (w'.heap[gb216]? = some (.cells #[u217000, u217001, .int .i64 x217002_1] 25 (0, 0))) ∧ Aside0 (IsS94 w0 w' g s0_0 t220) ∧ Aside0 (KeepBut w w' g none) ∧ Aside0 (Below w0.heap.size w0 w'))
 case atStart => exact ⟨(0), (t209), (t212), (t215), (.slice Ao7 t209.length co7), (.slice Ao11 t212.length co11), (by first | rfl | (simp; done) | (simp [*]; done)), H', ⟨Nat.le_refl _⟩, ⟨(by (with_reducible repeat (first | apply Kd.R_alloc | apply Kd.R_drewN | apply Kd.R_drew)); exact HO219.out)⟩, ⟨(by (with_reducible repeat (first | apply Kd.R_alloc | apply Kd.R_drewN | apply Kd.R_drew)); exact HO211.out)⟩, ⟨(by (with_reducible repeat (first | apply Kd.R_alloc | apply Kd.R_drewN | apply Kd.R_drew)); exact HO214.out)⟩, ⟨(by (with_reducible repeat (first | refine blk_drewN ?_ _ | refine blk_drew ?_ | refine blk_alloc ?_ _)); exact BK208.out)⟩, ⟨(by (with_reducible repeat (first | refine blk_drewN ?_ _ | refine blk_drew ?_ | refine blk_alloc ?_ _)); exact BK216.out)⟩, ⟨(by repeat (first | (with_reducible first | exact HI0.out | apply IsS94.alloc | apply IsS94.drewN | apply IsS94.drew | apply IsS94.set_1 | refine IsS94.far ?_ NB0_208.out _ | refine IsS94.far ?_ NB0_216.out _) | exact HI0.out))⟩, ⟨(by repeat (first | (with_reducible first | exact HK.out | apply KeepBut.set_ | apply keep_drewN | apply keep_drew | apply keep_alloc | refine keep_far ?_ GW208.out _ | refine keep_far ?_ GW216.out _) | exact HK.out))⟩, ⟨(by repeat (first | (with_reducible first | exact HB.out | apply below_alloc | apply pw_below_drewN | apply below_drew1 | refine below_set ?_ (IsS94.ge HI0.out) | refine below_set ?_ GE208.out | refine below_set ?_ GE216.out) | exact HB.out))⟩⟩
 case round =>
  clear H'
  obtain ⟨x5_1, x217000_1, x217001_1, x217002_1, u217000, u217001, rfl, HA, HK1, HO_4, HO_217000, HO_217001, BK208, BK216, HI0, HK, HB⟩ := hrel
  cases gk with
  | zero => exact absurd HA.out (by simp [spec_l7Draw.l0])
  | succ k1 =>
   have H := HA.out
   clear HA
   simp only [spec_l7Draw.l0] at H
   by_cases c13 : x5_1 < (t217.length : Int)
   ·rw [if_pos c13] at H
    have c13b0 : decide (x5_1 < (t217.length : Int)) = true := decide_eq_true c13
    clear c13
    by_cases c14 : 0 ≤ x5_1
    ·rw [if_pos c14] at H
     have c14b0 : decide (0 ≤ x5_1) = true := decide_eq_true c14
     clear c14
     by_cases c15 : ((rd_T37 t217 x5_1).f0) = 3
     ·rw [if_pos c15] at H
      have c15b0 : (((rd_T37 t217 x5_1).f0) == 3) = true := beq_iff_eq.mpr c15
      have c15b1 : (((rd_T37 t217 x5_1).f0) != 3) = false := bne_eq_false_iff_eq.mpr c15
      clear c15
      replace H := Option.bind_eq_some_iff.mp H
      obtain ⟨⟨t224, t227, t230, t231⟩, A160, H⟩ := H
      replace H : (spec_l7Draw.l0 k1 t217 (wrap64 (x5_1 + 1)) s0_0 t220 t224 t227 t230) = some (r1, r2, r3, r4) := H
      have A16 := Aside0.mk A160
      clear A160
      have H' := Aside0.mk H
      clear H
      obtain ⟨Ao17, co17, eo17⟩ := Kd.R_slice HO_4.out
      subst eo17
      have p221 : 0 ≤ (x5_1 : Int) := of_decide_eq_true qdk5_14
      have q221 : x5_1 < (t217.length : Int) := of_decide_eq_true qdk5_14
      obtain ⟨ad221, e221, hx221_0, hx221_1, hx221_2, hx221_3⟩ := at_T37 (Kd.R_reads' HO_4.out).2.2 x5_1 p221 q221
      cases e221
      replace p221 := eq_true p221
      replace q221 := eq_true q221
      obtain ⟨Ao18, co18, eo18⟩ := Kd.R_slice HO_217000.out
      subst eo18
      obtain ⟨Ao19, co19, eo19⟩ := Kd.R_slice HO_217001.out
      subst eo19
      try go_wp2
      have n0_ := Aside0.mk (Kd.R_drew HO_4.out)
      have n1_ := Aside0.mk (Kd.R_drew HO_217000.out)
      have n2_ := Aside0.mk (Kd.R_drew HO_217001.out)
      have n3_ := Aside0.mk (blk_drew BK208.out)
      have n4_ := Aside0.mk (blk_drew BK216.out)
      have n5_ := Aside0.mk (IsS94.drew HI0.out)
      have n6_ := Aside0.mk (keep_drew HK.out)
      have n7_ := Aside0.mk (below_drew1 HB.out)
      clear HO_4 HO_217000 HO_217001 BK208 BK216 HI0 HK HB
      have HO_4 := n0_
      have HO_217000 := n1_
      have HO_217001 := n2_
      have BK208 := n3_
      have BK216 := n4_
      have HI0 := n5_
      have HK := n6_
      have HB := n7_
      clear n0_ n1_ n2_ n3_ n4_ n5_ n6_ n7_
      have p222 : 0 ≤ (x5_1 : Int) := of_decide_eq_true qdk5_14
      have q222 : x5_1 < (t217.length : Int) := of_decide_eq_true qdk5_14
      obtain ⟨ad222, e222, hx222_0, hx222_1, hx222_2, hx222_3⟩ := at_T37 (Kd.R_reads' HO_4.out).2.2 x5_1 p222 q222
      obtain rfl : ad221 = ad222 := (by injection e222)
      replace p222 := eq_true p222
      replace q222 := eq_true q222
      have p223 : 0 ≤ (x5_1 : Int) := of_decide_eq_true qdk5_14
      have q223 : x5_1 < (t217.length : Int) := of_decide_eq_true qdk5_14
      obtain ⟨ad223, e223, hx223_0, hx223_1, hx223_2, hx223_3⟩ := at_T37 (Kd.R_reads' HO_4.out).2.2 x5_1 p223 q223
      obtain rfl : ad221 = ad223 := (by injection e223)
      replace p223 := eq_true p223
      replace q223 := eq_true q223
      refine start_ (n := 18) (S := fun w' => w'.cell? ⟨gb216, 0, none⟩ = some (.slice Ao18 x217000_1.length co18) ∧ w'.cell? ⟨gb216, 1, none⟩ = some (.slice Ao19 x217001_1.length co19) ∧ w'.cell? ⟨gb216, 2, none⟩ = some (.int .i64 x217002_1) ∧ w'.cell? (ad221.add ((x5_1).toNat * 4)) = some (.int .i64 ((rd_T37 t217 x5_1).f0)) ∧ w'.cell? ⟨(ad221.add ((x5_1).toNat * 4)).block, (ad221.add ((x5_1).toNat * 4)).off + 1, none⟩ = some (.int .u64 ((rd_T37 t217 x5_1).f1)) ∧ w'.cell? ⟨(ad221.add ((x5_1).toNat * 4)).block, (ad221.add ((x5_1).toNat * 4)).off + 2, none⟩ = some (.int .i64 ((rd_T37 t217 x5_1).f2)) ∧ w'.cell? ⟨(ad221.add ((x5_1).toNat * 4)).block, (ad221.add ((x5_1).toNat * 4)).off + 3, none⟩ = some (.int .i64 ((rd_T37 t217 x5_1).f3)) ∧ w'.cell? (ad221.add ((x5_1).toNat * 4)) = some (.int .i64 ((rd_T37 t217 x5_1).f0)) ∧ w'.cell? ⟨(ad221.add ((x5_1).toNat * 4)).block, (ad221.add ((x5_1).toNat * 4)).off + 1, none⟩ = some (.int .u64 ((rd_T37 t217 x5_1).f1)) ∧ w'.cell? ⟨(ad221.add ((x5_1).toNat * 4)).block, (ad221.add ((x5_1).toNat * 4)).off + 2, none⟩ = some (.int .i64 ((rd_T37 t217 x5_1).f2)) ∧ w'.cell? ⟨(ad221.add ((x5_1).toNat * 4)).block, (ad221.add ((x5_1).toNat * 4)).off + 3, none⟩ = some (.int .i64 ((rd_T37 t217 x5_1).f3))) (ds := []) (bs_ 18 0) qdk5_15 rfl rfl ⟨(blk_cell BK216.out 0).trans rfl, (blk_cell BK216.out 1).trans rfl, (blk_cell BK216.out 2).trans rfl, hx222_0, hx222_1, hx222_2, hx222_3, hx223_0, hx223_1, hx223_2, hx223_3⟩ (fun hHeld => ?_); refine with_tabW spec_l7Draw.tab7 spec_l7Draw.bits7 (fun HT_ HW_ => ?_)
      generalize wr.drew = w20 at HO_4 HO_217000 HO_217001 BK208 BK216 HI0 HK HB hx222_0 hx222_1 hx222_2 hx222_3 hx223_0 hx223_1 hx223_2 hx223_3 hHeld ⊢
      refine pure_ (i := 1) (N := some 27) (bs_ 18 2) rfl rfl (any_of HT_.out qdk5_15) (fun _ _ _ h => h) (Or.inl ⟨by rfl, qpy_pdkx5⟩) qpa_pdkx5 ?_
      refine pure_ (i := 2) (N := some 28) (bs_ 18 6) rfl rfl (any_of HT_.out qdk5_15) (fun _ _ _ h => h) (Or.inl ⟨by rfl, qpy_pdkx5⟩) qpa_pdkx5 ?_
      refine pure_ (i := 3) (N := some 29) (bs_ 18 14) rfl rfl (any_of HT_.out qdk5_15) (fun _ _ _ h => h) (Or.inl ⟨by rfl, qpy_pdkx5⟩) qpa_pdkx5 ?_
      refine pure_ (i := 4) (N := some 30) (bs_ 18 30) rfl rfl (any_of HT_.out qdk5_15) (fun _ _ _ h => h) (Or.inl ⟨by rfl, qpy_pdkx5⟩) qpa_pdkx5 ?_
      refine pure_ (i := 6) (N := some 32) (bs_ 18 94) rfl rfl (any_of HT_.out qdk5_15) (fun _ _ _ h => h) (Or.inl ⟨by rfl, qpy_pdkx5⟩) qpa_pdkx5 ?_
      refine pure_ (i := 7) (N := some 33) (bs_ 18 222) rfl rfl (any_of HT_.out qdk5_15) (fun _ _ _ h => h) (Or.inl ⟨by rfl, qpy_pdkx5⟩) qpa_pdkx5 ?_
      refine pure_ (i := 8) (N := some 34) (bs_ 18 478) rfl rfl (any_of HT_.out qdk5_15) (fun _ _ _ h => h) (Or.inl ⟨by rfl, qpy_pdkx5⟩) qpa_pdkx5 ?_
      refine pure_ (i := 9) (N := some 35) (bs_ 18 990) rfl rfl (any_of HT_.out qdk5_15) (fun _ _ _ h => h) (Or.inl ⟨by rfl, qpy_pdkx5⟩) qpa_pdkx5 ?_
      refine take_ (i := 0) (N := some 26) (bs_ 18 991) rfl rfl (take_ofW HT_.out HW_.out qdk5_15) (fun _ _ _ h => h) (Or.inl ⟨by rfl, qpt11_pdkx5⟩) hHeld qpa_pdkx5 ?_
      refine take_ (i := 5) (N := some 31) (bs_ 18 1023) rfl rfl (take_ofW HT_.out HW_.out qdk5_15) (fun _ _ _ h => h) (Or.inl ⟨by rfl, qpt11_pdkx5⟩) hHeld qpa_pdkx5 ?_
      refine take_ (i := 10) (N := some 36) (bs_ 18 2047) rfl rfl (take_ofW HT_.out HW_.out qdk5_15) (fun _ _ _ h => h) (Or.inl ⟨by rfl, qpt11_pdkx5⟩) hHeld qpa_pdkx5 ?_
      refine join_ (σ := Value × Value × Nat) 2 (bs_ 18 65535) (fun s_ => [(37, .tuple #[.agg #[s_.1, s_.2.1, .int .i64 t230], .bool t231]), (6, .pointer (some ⟨s_.2.2, 0, none⟩)), (25, .tuple #[.agg #[s_.1, s_.2.1, .int .i64 t230], .bool t231]), (38, .agg #[s_.1, s_.2.1, .int .i64 t230]), (39, .bool t231)]) (fun s_ w' => (w'.cell? ⟨gb216, 0, none⟩ = some (.slice Ao18 x217000_1.length co18) ∧ w'.cell? ⟨gb216, 1, none⟩ = some (.slice Ao19 x217001_1.length co19) ∧ w'.cell? ⟨gb216, 2, none⟩ = some (.int .i64 x217002_1) ∧ w'.cell? (ad221.add ((x5_1).toNat * 4)) = some (.int .i64 ((rd_T37 t217 x5_1).f0)) ∧ w'.cell? ⟨(ad221.add ((x5_1).toNat * 4)).block, (ad221.add ((x5_1).toNat * 4)).off + 1, none⟩ = some (.int .u64 ((rd_T37 t217 x5_1).f1)) ∧ w'.cell? ⟨(ad221.add ((x5_1).toNat * 4)).block, (ad221.add ((x5_1).toNat * 4)).off + 2, none⟩ = some (.int .i64 ((rd_T37 t217 x5_1).f2)) ∧ w'.cell? ⟨(ad221.add ((x5_1).toNat * 4)).block, (ad221.add ((x5_1).toNat * 4)).off + 3, none⟩ = some (.int .i64 ((rd_T37 t217 x5_1).f3)) ∧ w'.cell? (ad221.add ((x5_1).toNat * 4)) = some (.int .i64 ((rd_T37 t217 x5_1).f0)) ∧ w'.cell? ⟨(ad221.add ((x5_1).toNat * 4)).block, (ad221.add ((x5_1).toNat * 4)).off + 1, none⟩ = some (.int .u64 ((rd_T37 t217 x5_1).f1)) ∧ w'.cell? ⟨(ad221.add ((x5_1).toNat * 4)).block, (ad221.add ((x5_1).toNat * 4)).off + 2, none⟩ = some (.int .i64 ((rd_T37 t217 x5_1).f2)) ∧ w'.cell? ⟨(ad221.add ((x5_1).toNat * 4)).block, (ad221.add ((x5_1).toNat * 4)).off + 3, none⟩ = some (.int .i64 ((rd_T37 t217 x5_1).f3))) ∧ (Kd.R (Kd.int .i64) 2 w' w.heap.size (fun k_ => some k_ ≠ (.slice Ao18 x217000_1.length co18 : Value).ownBlock) s_.1 t224) ∧ (Kd.R k62 62 w' w.heap.size (fun k_ => some k_ ≠ (.slice Ao19 x217001_1.length co19 : Value).ownBlock) s_.2.1 t227) ∧ (Kd.R (Kd.int .i64) 2 w' w.heap.size (fun k_ => some k_ ≠ (s_.1 : Value).ownBlock) (.slice Ao18 x217000_1.length co18) x217000_1) ∧ (Kd.R k62 62 w' w.heap.size (fun k_ => some k_ ≠ (s_.2.1 : Value).ownBlock) (.slice Ao19 x217001_1.length co19) x217001_1) ∧ (Kd.R k37 37 w' w.heap.size (fun _ => True) (.slice (some ad221) t217.length co17) t217) ∧ (w'.heap[gb208]? = some (.cells #[.slice none 0 0, .slice none 0 0, .int .i64 0] 25 (0, 0))) ∧ (w'.heap[gb216]? = some (.cells #[.slice Ao18 x217000_1.length co18, .slice Ao19 x217001_1.length co19, .int .i64 x217002_1] 25 (0, 0))) ∧ (w'.heap[s_.2.2]? = some (.cells #[.slice none 0 0, .slice none 0 0, .int .i64 0] 25 (0, 0))) ∧ (w.heap.size ≤ s_.2.2) ∧ (w0.heap.size ≤ s_.2.2) ∧ (g ≠ s_.2.2) ∧ (s_.2.2 ≠ g) ∧ (gb208 ≠ s_.2.2) ∧ (s_.2.2 ≠ gb208) ∧ (gb216 ≠ s_.2.2) ∧ (s_.2.2 ≠ gb216) ∧ (IsS94 w0 w' g s0_0 t220) ∧ (KeepBut w w' g none) ∧ (Below w0.heap.size w0 w')) ?_ ?_
      rotate_left
      ·intro hCont
       refine two_ (i := 11) (j := 15) (Ni := some 37) (Nj := some 6) (bs_ 18 4095) (bs_ 18 34815) rfl rfl rfl rfl (two_of HT_.out qdk5_15) (by decide) (by decide) (fun K hK => ?_) (fun K hK => ?_)
       ·skip
        refine goes_ Try.func61 qdk5_15 rfl #[.agg #[.slice Ao18 x217000_1.length co18, .slice Ao19 x217001_1.length co19, .int .i64 x217002_1], .int .u64 ((rd_T37 t217 x5_1).f1), .int .i64 ((rd_T37 t217 x5_1).f2)] (by rfl) rfl rfl qdk5_13 ?_
        with_reducible refine (spec_l7Cut.calls k1 _ _ x217000_1 _ _ x217001_1 x217002_1 ((rd_T37 t217 x5_1).f1) ((rd_T37 t217 x5_1).f2) t224 t227 t230 t231 _ ?side1 ?side2 ?side3 ?side4 A16.out).mono ?_
        (case side1 => exact (qdk5_9 HO_217000))
        (case side2 => exact (Kd.R_reads' HO_217000.out).2.1)
        (case side3 => exact (qdk5_9 HO_217001))
        (case side4 => exact (Kd.R_reads' HO_217001.out).2.1)
        rintro e w21 ⟨v225, v228, rfl, ho0, ho1, hb⟩
        have HS3_ := hbc_pdkx5 hb hHeld.2.2.2.1
        have HS4_ := hbc_pdkx5 hb hHeld.2.2.2.2.1
        have HS5_ := hbc_pdkx5 hb hHeld.2.2.2.2.2.1
        have HS6_ := hbc_pdkx5 hb hHeld.2.2.2.2.2.2.1
        have HS7_ := hbc_pdkx5 hb hHeld.2.2.2.2.2.2.2.1
        have HS8_ := hbc_pdkx5 hb hHeld.2.2.2.2.2.2.2.2.1
        have HS9_ := hbc_pdkx5 hb hHeld.2.2.2.2.2.2.2.2.2.1
        have HS10_ := hbc_pdkx5 hb hHeld.2.2.2.2.2.2.2.2.2.2
        refine ⟨_, rfl, ?_⟩
        have n0_ := Aside0.mk (Kd.R_below (qdk5_3 HO_4) hb)
        have n1_ := Aside0.mk (Kd.R_elder' (qdk5_3 HO_217000) (Kd.R_base ho0) hb)
        have n2_ := Aside0.mk (Kd.R_elder' (qdk5_3 HO_217001) (Kd.R_base ho1) hb)
        have n3_ := Aside0.mk (Kd.R_lower (Kd.R_new' ho0 (Kd.R_lt (qdk5_3 HO_217000))) (keep_size (w := w) (g := g) (row := none) (qdk5_4 HK GW208 GW216)))
        have n4_ := Aside0.mk (Kd.R_lower (Kd.R_new' ho1 (Kd.R_lt (qdk5_3 HO_217001))) (keep_size (w := w) (g := g) (row := none) (qdk5_4 HK GW208 GW216)))
        have n5_ := Aside0.mk (blk_below (qdk5_2 BK208) hb)
        have n6_ := Aside0.mk (blk_below (qdk5_2 BK216) hb)
        have n7_ := Aside0.mk (IsS94.below (qdk5_8 NB0_208 NB0_216) hb)
        have n8_ := Aside0.mk (KeepBut.trans (qdk5_4 HK GW208 GW216) (KeepBut.of_below hb g none) (.inl rfl))
        have n9_ := Aside0.mk (below_step (qdk5_7 HB GE208 GE216) hb)
        clear HO_4 HO_217000 HO_217001 BK208 BK216 HI0 HK HB
        have HO_4 := n0_
        have HO_217000 := n1_
        have HO_217001 := n2_
        have HO226 := n3_
        have HO229 := n4_
        have BK208 := n5_
        have BK216 := n6_
        have HI0 := n7_
        have HK := n8_
        have HB := n9_
        clear n0_ n1_ n2_ n3_ n4_ n5_ n6_ n7_ n8_ n9_
        (try clear hb)
        (try clear hb2)
        (try clear hk)
        (try clear hi)
        (try clear ho0)
        (try clear ho1)
        refine hK.out _ _ ⟨(blk_cell BK216.out 0).trans rfl, (blk_cell BK216.out 1).trans rfl, (blk_cell BK216.out 2).trans rfl, HS3_, HS4_, HS5_, HS6_, HS7_, HS8_, HS9_, HS10_⟩ (fun hHeld => ?_)
        clear hK K
        refine norm_ (a' := ?_) ?_ ?_
        rotate_left
        ·show Act.put _ (some 37) _ = _
         simp only [Act.put, List.setIfInBounds_toArray, List.set_cons_zero, List.set_cons_succ, i64_w, i32_w]
         rfl
        refine pure_ (i := 12) (N := some 25) (bs_ 18 8191) rfl rfl (any_of HT_.out qdk5_15) (fun _ _ _ h => h) (Or.inl ⟨by rfl, qpy_pdkx5⟩) qpa_pdkx5 ?_
        refine pure_ (i := 13) (N := some 38) (bs_ 18 16383) rfl rfl (any_of HT_.out qdk5_15) (fun _ _ _ h => h) (Or.inl ⟨by rfl, qpy_pdkx5⟩) qpa_pdkx5 ?_
        refine pure_ (i := 14) (N := some 39) (bs_ 18 32767) rfl rfl (any_of HT_.out qdk5_15) (fun _ _ _ h => h) (Or.inl ⟨by rfl, qpy_pdkx5⟩) qpa_pdkx5 ?_
        refine one_ (i := 15) (N := some 6) (bs_ 18 65535) rfl rfl (one_of HT_.out qdk5_15) (by decide) (fun K hK => ?_)
        refine box_step ?hg (N := 6) ?hd (cs := #[.slice none 0 0, .slice none 0 0, .int .i64 0]) (t := 25) ?hr ?_; (case hd => rfl); (case hg => rfl); (case hr => exact (by first | (go_simp; done) | (go_simp; rfl)))
        intro gb232 hg w22 hbox hb
        have HS3_ := hbc_pdkx5 hb hHeld.2.2.2.1
        have HS4_ := hbc_pdkx5 hb hHeld.2.2.2.2.1
        have HS5_ := hbc_pdkx5 hb hHeld.2.2.2.2.2.1
        have HS6_ := hbc_pdkx5 hb hHeld.2.2.2.2.2.2.1
        have HS7_ := hbc_pdkx5 hb hHeld.2.2.2.2.2.2.2.1
        have HS8_ := hbc_pdkx5 hb hHeld.2.2.2.2.2.2.2.2.1
        have HS9_ := hbc_pdkx5 hb hHeld.2.2.2.2.2.2.2.2.2.1
        have HS10_ := hbc_pdkx5 hb hHeld.2.2.2.2.2.2.2.2.2.2
        have n0_ := Aside0.mk (Kd.R_below (qdk5_3 HO_4) hb)
        have n1_ := Aside0.mk (Kd.R_below (qdk5_3 HO_217000) hb)
        have n2_ := Aside0.mk (Kd.R_below (qdk5_3 HO_217001) hb)
        have n3_ := Aside0.mk (Kd.R_below (qdk5_3 HO226) hb)
        have n4_ := Aside0.mk (Kd.R_below (qdk5_3 HO229) hb)
        have n5_ := Aside0.mk (blk_below (qdk5_2 BK208) hb)
        have n6_ := Aside0.mk (blk_below (qdk5_2 BK216) hb)
        have n7_ := Aside0.mk (IsS94.below (qdk5_8 NB0_208 NB0_216) hb)
        have n8_ := Aside0.mk (KeepBut.trans (qdk5_4 HK GW208 GW216) (KeepBut.of_below hb g none) (.inl rfl))
        have n9_ := Aside0.mk (below_step (qdk5_7 HB GE208 GE216) hb)
        have n10_ := Aside0.mk (hbox)
        have n11_ := Aside0.mk ((by rw [hg]; exact (keep_size (w := w) (g := g) (row := none) (qdk5_4 HK GW208 GW216)) : w.heap.size ≤ gb232))
        have n12_ := Aside0.mk ((Nat.le_trans HW0.out (by rw [hg]; exact (keep_size (w := w) (g := g) (row := none) (qdk5_4 HK GW208 GW216)) : w.heap.size ≤ gb232) : w0.heap.size ≤ gb232))
        have n13_ := Aside0.mk ((qnl_pdkx5 BK208 hg : gb208 ≠ gb232))
        have n14_ := Aside0.mk ((qng_pdkx5 BK208 hg : gb232 ≠ gb208))
        have n15_ := Aside0.mk ((qnl_pdkx5 BK216 hg : gb216 ≠ gb232))
        have n16_ := Aside0.mk ((qng_pdkx5 BK216 hg : gb232 ≠ gb216))
        have n17_ := Aside0.mk ((by rw [hg]; exact Nat.ne_of_lt (IsS94.lt (show IsS94 w0 _ g s0_0 t220 from by repeat (first | (with_reducible first | exact HI0.out | apply IsS94.alloc | apply IsS94.drewN | apply IsS94.drew | apply IsS94.set_1 | refine IsS94.far ?_ NB0_208.out _ | refine IsS94.far ?_ NB0_216.out _) | exact HI0.out))) : g ≠ gb232))
        have n18_ := Aside0.mk ((by rw [hg]; exact Nat.ne_of_gt (IsS94.lt (show IsS94 w0 _ g s0_0 t220 from by repeat (first | (with_reducible first | exact HI0.out | apply IsS94.alloc | apply IsS94.drewN | apply IsS94.drew | apply IsS94.set_1 | refine IsS94.far ?_ NB0_208.out _ | refine IsS94.far ?_ NB0_216.out _) | exact HI0.out))) : gb232 ≠ g))
        clear HO_4 HO_217000 HO_217001 HO226 HO229 BK208 BK216 HI0 HK HB
        have HO_4 := n0_
        have HO_217000 := n1_
        have HO_217001 := n2_
        have HO226 := n3_
        have HO229 := n4_
        have BK208 := n5_
        have BK216 := n6_
        have HI0 := n7_
        have HK := n8_
        have HB := n9_
        have BK232 := n10_
        have GW232 := n11_
        have GE232 := n12_
        have NB208_232 := n13_
        have NB232_208 := n14_
        have NB216_232 := n15_
        have NB232_216 := n16_
        have NB0_232 := n17_
        have NB232_0 := n18_
        clear n0_ n1_ n2_ n3_ n4_ n5_ n6_ n7_ n8_ n9_ n10_ n11_ n12_ n13_ n14_ n15_ n16_ n17_ n18_ hb hbox hg
        refine hK.out _ _ ⟨(blk_cell BK216.out 0).trans rfl, (blk_cell BK216.out 1).trans rfl, (blk_cell BK216.out 2).trans rfl, HS3_, HS4_, HS5_, HS6_, HS7_, HS8_, HS9_, HS10_⟩ (fun hHeld => ?_)
        clear hK K
        refine norm_ (a' := ?_) ?_ ?_
        rotate_left
        ·show Act.put _ (some 6) _ = _
         simp only [Act.put, List.setIfInBounds_toArray, List.set_cons_zero, List.set_cons_succ, i64_w, i32_w]
         rfl
        exact norm_ qdk5_17 (hCont (v225, v228, gb232) _ ⟨hHeld, (qdk5_6 HO226), (qdk5_6 HO229), (qdk5_6 HO_217000), (qdk5_6 HO_217001), (qdk5_3 HO_4), (qdk5_2 BK208), (qdk5_2 BK216), (qdk5_2 BK232), GW232.out, GE232.out, NB0_232.out, NB232_0.out, NB208_232.out, NB232_208.out, NB216_232.out, NB232_216.out, (qdk5_11 NB0_208 NB0_216 NB0_232), (qdk5_5 HK GW208 GW216 GW232), (qdk5_10 HB GE208 GE216 GE232)⟩)
       skip
       refine box_step ?hg (N := 6) ?hd (cs := #[.slice none 0 0, .slice none 0 0, .int .i64 0]) (t := 25) ?hr ?_; (case hd => rfl); (case hg => rfl); (case hr => exact (by first | (go_simp; done) | (go_simp; rfl)))
       intro gb232 hg w21 hbox hb
       have HS3_ := hbc_pdkx5 hb hHeld.2.2.2.1
       have HS4_ := hbc_pdkx5 hb hHeld.2.2.2.2.1
       have HS5_ := hbc_pdkx5 hb hHeld.2.2.2.2.2.1
       have HS6_ := hbc_pdkx5 hb hHeld.2.2.2.2.2.2.1
       have HS7_ := hbc_pdkx5 hb hHeld.2.2.2.2.2.2.2.1
       have HS8_ := hbc_pdkx5 hb hHeld.2.2.2.2.2.2.2.2.1
       have HS9_ := hbc_pdkx5 hb hHeld.2.2.2.2.2.2.2.2.2.1
       have HS10_ := hbc_pdkx5 hb hHeld.2.2.2.2.2.2.2.2.2.2
       have n0_ := Aside0.mk (Kd.R_below (qdk5_3 HO_4) hb)
       have n1_ := Aside0.mk (Kd.R_below (qdk5_3 HO_217000) hb)
       have n2_ := Aside0.mk (Kd.R_below (qdk5_3 HO_217001) hb)
       have n3_ := Aside0.mk (blk_below (qdk5_2 BK208) hb)
       have n4_ := Aside0.mk (blk_below (qdk5_2 BK216) hb)
       have n5_ := Aside0.mk (IsS94.below (qdk5_8 NB0_208 NB0_216) hb)
       have n6_ := Aside0.mk (KeepBut.trans (qdk5_4 HK GW208 GW216) (KeepBut.of_below hb g none) (.inl rfl))
       have n7_ := Aside0.mk (below_step (qdk5_7 HB GE208 GE216) hb)
       have n8_ := Aside0.mk (hbox)
       have n9_ := Aside0.mk ((by rw [hg]; exact (keep_size (w := w) (g := g) (row := none) (qdk5_4 HK GW208 GW216)) : w.heap.size ≤ gb232))
       have n10_ := Aside0.mk ((Nat.le_trans HW0.out (by rw [hg]; exact (keep_size (w := w) (g := g) (row := none) (qdk5_4 HK GW208 GW216)) : w.heap.size ≤ gb232) : w0.heap.size ≤ gb232))
       have n11_ := Aside0.mk ((qnl_pdkx5 BK208 hg : gb208 ≠ gb232))
       have n12_ := Aside0.mk ((qng_pdkx5 BK208 hg : gb232 ≠ gb208))
       have n13_ := Aside0.mk ((qnl_pdkx5 BK216 hg : gb216 ≠ gb232))
       have n14_ := Aside0.mk ((qng_pdkx5 BK216 hg : gb232 ≠ gb216))
       have n15_ := Aside0.mk ((by rw [hg]; exact Nat.ne_of_lt (IsS94.lt (show IsS94 w0 _ g s0_0 t220 from by repeat (first | (with_reducible first | exact HI0.out | apply IsS94.alloc | apply IsS94.drewN | apply IsS94.drew | apply IsS94.set_1 | refine IsS94.far ?_ NB0_208.out _ | refine IsS94.far ?_ NB0_216.out _) | exact HI0.out))) : g ≠ gb232))
       have n16_ := Aside0.mk ((by rw [hg]; exact Nat.ne_of_gt (IsS94.lt (show IsS94 w0 _ g s0_0 t220 from by repeat (first | (with_reducible first | exact HI0.out | apply IsS94.alloc | apply IsS94.drewN | apply IsS94.drew | apply IsS94.set_1 | refine IsS94.far ?_ NB0_208.out _ | refine IsS94.far ?_ NB0_216.out _) | exact HI0.out))) : gb232 ≠ g))
       clear HO_4 HO_217000 HO_217001 BK208 BK216 HI0 HK HB
       have HO_4 := n0_
       have HO_217000 := n1_
       have HO_217001 := n2_
       have BK208 := n3_
       have BK216 := n4_
       have HI0 := n5_
       have HK := n6_
       have HB := n7_
       have BK232 := n8_
       have GW232 := n9_
       have GE232 := n10_
       have NB208_232 := n11_
       have NB232_208 := n12_
       have NB216_232 := n13_
       have NB232_216 := n14_
       have NB0_232 := n15_
       have NB232_0 := n16_
       clear n0_ n1_ n2_ n3_ n4_ n5_ n6_ n7_ n8_ n9_ n10_ n11_ n12_ n13_ n14_ n15_ n16_ hb hbox hg
       refine hK.out _ _ ⟨(blk_cell BK216.out 0).trans rfl, (blk_cell BK216.out 1).trans rfl, (blk_cell BK216.out 2).trans rfl, HS3_, HS4_, HS5_, HS6_, HS7_, HS8_, HS9_, HS10_⟩ (fun hHeld => ?_)
       clear hK K
       refine norm_ (a' := ?_) ?_ ?_
       rotate_left
       ·show Act.put _ (some 6) _ = _
        simp only [Act.put, List.setIfInBounds_toArray, List.set_cons_zero, List.set_cons_succ, i64_w, i32_w]
        rfl
       refine one_ (i := 11) (N := some 37) (bs_ 18 36863) rfl rfl (one_of HT_.out qdk5_15) (by decide) (fun K hK => ?_)
       refine goes_ Try.func61 qdk5_15 rfl #[.agg #[.slice Ao18 x217000_1.length co18, .slice Ao19 x217001_1.length co19, .int .i64 x217002_1], .int .u64 ((rd_T37 t217 x5_1).f1), .int .i64 ((rd_T37 t217 x5_1).f2)] (by rfl) rfl rfl qdk5_13 ?_
       with_reducible refine (spec_l7Cut.calls k1 _ _ x217000_1 _ _ x217001_1 x217002_1 ((rd_T37 t217 x5_1).f1) ((rd_T37 t217 x5_1).f2) t224 t227 t230 t231 _ ?side1 ?side2 ?side3 ?side4 A16.out).mono ?_
       (case side1 => exact (qdk5_9 HO_217000))
       (case side2 => exact (Kd.R_reads' HO_217000.out).2.1)
       (case side3 => exact (qdk5_9 HO_217001))
       (case side4 => exact (Kd.R_reads' HO_217001.out).2.1)
       rintro e w22 ⟨v225, v228, rfl, ho0, ho1, hb⟩
       have HS3_ := hbc_pdkx5 hb hHeld.2.2.2.1
       have HS4_ := hbc_pdkx5 hb hHeld.2.2.2.2.1
       have HS5_ := hbc_pdkx5 hb hHeld.2.2.2.2.2.1
       have HS6_ := hbc_pdkx5 hb hHeld.2.2.2.2.2.2.1
       have HS7_ := hbc_pdkx5 hb hHeld.2.2.2.2.2.2.2.1
       have HS8_ := hbc_pdkx5 hb hHeld.2.2.2.2.2.2.2.2.1
       have HS9_ := hbc_pdkx5 hb hHeld.2.2.2.2.2.2.2.2.2.1
       have HS10_ := hbc_pdkx5 hb hHeld.2.2.2.2.2.2.2.2.2.2
       refine ⟨_, rfl, ?_⟩
       have n0_ := Aside0.mk (Kd.R_below (qdk5_3 HO_4) hb)
       have n1_ := Aside0.mk (Kd.R_elder' (qdk5_3 HO_217000) (Kd.R_base ho0) hb)
       have n2_ := Aside0.mk (Kd.R_elder' (qdk5_3 HO_217001) (Kd.R_base ho1) hb)
       have n3_ := Aside0.mk (Kd.R_lower (Kd.R_new' ho0 (Kd.R_lt (qdk5_3 HO_217000))) (keep_size (w := w) (g := g) (row := none) (qdk5_5 HK GW208 GW216 GW232)))
       have n4_ := Aside0.mk (Kd.R_lower (Kd.R_new' ho1 (Kd.R_lt (qdk5_3 HO_217001))) (keep_size (w := w) (g := g) (row := none) (qdk5_5 HK GW208 GW216 GW232)))
       have n5_ := Aside0.mk (blk_below (qdk5_2 BK208) hb)
       have n6_ := Aside0.mk (blk_below (qdk5_2 BK216) hb)
       have n7_ := Aside0.mk (IsS94.below (qdk5_11 NB0_208 NB0_216 NB0_232) hb)
       have n8_ := Aside0.mk (blk_below (qdk5_2 BK232) hb)
       have n9_ := Aside0.mk (KeepBut.trans (qdk5_5 HK GW208 GW216 GW232) (KeepBut.of_below hb g none) (.inl rfl))
       have n10_ := Aside0.mk (below_step (qdk5_10 HB GE208 GE216 GE232) hb)
       clear HO_4 HO_217000 HO_217001 BK208 BK216 HI0 BK232 HK HB
       have HO_4 := n0_
       have HO_217000 := n1_
       have HO_217001 := n2_
       have HO226 := n3_
       have HO229 := n4_
       have BK208 := n5_
       have BK216 := n6_
       have HI0 := n7_
       have BK232 := n8_
       have HK := n9_
       have HB := n10_
       clear n0_ n1_ n2_ n3_ n4_ n5_ n6_ n7_ n8_ n9_ n10_
       (try clear hb)
       (try clear hb2)
       (try clear hk)
       (try clear hi)
       (try clear ho0)
       (try clear ho1)
       refine hK.out _ _ ⟨(blk_cell BK216.out 0).trans rfl, (blk_cell BK216.out 1).trans rfl, (blk_cell BK216.out 2).trans rfl, HS3_, HS4_, HS5_, HS6_, HS7_, HS8_, HS9_, HS10_⟩ (fun hHeld => ?_)
       clear hK K
       refine norm_ (a' := ?_) ?_ ?_
       rotate_left
       ·show Act.put _ (some 37) _ = _
        simp only [Act.put, List.setIfInBounds_toArray, List.set_cons_zero, List.set_cons_succ, i64_w, i32_w]
        rfl
       refine pure_ (i := 12) (N := some 25) (bs_ 18 40959) rfl rfl (any_of HT_.out qdk5_15) (fun _ _ _ h => h) (Or.inl ⟨by rfl, qpy_pdkx5⟩) qpa_pdkx5 ?_
       refine pure_ (i := 13) (N := some 38) (bs_ 18 49151) rfl rfl (any_of HT_.out qdk5_15) (fun _ _ _ h => h) (Or.inl ⟨by rfl, qpy_pdkx5⟩) qpa_pdkx5 ?_
       refine pure_ (i := 14) (N := some 39) (bs_ 18 65535) rfl rfl (any_of HT_.out qdk5_15) (fun _ _ _ h => h) (Or.inl ⟨by rfl, qpy_pdkx5⟩) qpa_pdkx5 ?_
       exact norm_ qdk5_17 (hCont (v225, v228, gb232) _ ⟨hHeld, (qdk5_6 HO226), (qdk5_6 HO229), (qdk5_6 HO_217000), (qdk5_6 HO_217001), (qdk5_3 HO_4), (qdk5_2 BK208), (qdk5_2 BK216), (qdk5_2 BK232), GW232.out, GE232.out, NB0_232.out, NB232_0.out, NB208_232.out, NB232_208.out, NB216_232.out, NB232_216.out, (qdk5_11 NB0_208 NB0_216 NB0_232), (qdk5_5 HK GW208 GW216 GW232), (qdk5_10 HB GE208 GE216 GE232)⟩)
      rintro ⟨v225, v228, gb232⟩ w23 ⟨hS_, h0_, h1_, h2_, h3_, h4_, h5_, h6_, h7_, h8_, h9_, h10_, h11_, h12_, h13_, h14_, h15_, h16_, h17_, h18_⟩
      have n0_ : Aside0 (Kd.R (Kd.int .i64) 2 w23 w.heap.size (fun k_ => some k_ ≠ (.slice Ao18 x217000_1.length co18 : Value).ownBlock) v225 t224) := ⟨h0_⟩
      have n1_ : Aside0 (Kd.R k62 62 w23 w.heap.size (fun k_ => some k_ ≠ (.slice Ao19 x217001_1.length co19 : Value).ownBlock) v228 t227) := ⟨h1_⟩
      have n2_ : Aside0 (Kd.R (Kd.int .i64) 2 w23 w.heap.size (fun k_ => some k_ ≠ (v225 : Value).ownBlock) (.slice Ao18 x217000_1.length co18) x217000_1) := ⟨h2_⟩
      have n3_ : Aside0 (Kd.R k62 62 w23 w.heap.size (fun k_ => some k_ ≠ (v228 : Value).ownBlock) (.slice Ao19 x217001_1.length co19) x217001_1) := ⟨h3_⟩
      have n4_ : Aside0 (Kd.R k37 37 w23 w.heap.size (fun _ => True) (.slice (some ad221) t217.length co17) t217) := ⟨h4_⟩
      have n5_ : Aside0 (w23.heap[gb208]? = some (.cells #[.slice none 0 0, .slice none 0 0, .int .i64 0] 25 (0, 0))) := ⟨h5_⟩
      have n6_ : Aside0 (w23.heap[gb216]? = some (.cells #[.slice Ao18 x217000_1.length co18, .slice Ao19 x217001_1.length co19, .int .i64 x217002_1] 25 (0, 0))) := ⟨h6_⟩
      have n7_ : Aside0 (w23.heap[gb232]? = some (.cells #[.slice none 0 0, .slice none 0 0, .int .i64 0] 25 (0, 0))) := ⟨h7_⟩
      have n8_ : Aside0 (w.heap.size ≤ gb232) := ⟨h8_⟩
      have n9_ : Aside0 (w0.heap.size ≤ gb232) := ⟨h9_⟩
      have n10_ : Aside0 (g ≠ gb232) := ⟨h10_⟩
      have n11_ : Aside0 (gb232 ≠ g) := ⟨h11_⟩
      have n12_ : Aside0 (gb208 ≠ gb232) := ⟨h12_⟩
      have n13_ : Aside0 (gb232 ≠ gb208) := ⟨h13_⟩
      have n14_ : Aside0 (gb216 ≠ gb232) := ⟨h14_⟩
      have n15_ : Aside0 (gb232 ≠ gb216) := ⟨h15_⟩
      have n16_ : Aside0 (IsS94 w0 w23 g s0_0 t220) := ⟨h16_⟩
      have n17_ : Aside0 (KeepBut w w23 g none) := ⟨h17_⟩
      have n18_ : Aside0 (Below w0.heap.size w0 w23) := ⟨h18_⟩
      clear HO_4 HO_217000 HO_217001 BK208 BK216 HI0 HK HB h0_ h1_ h2_ h3_ h4_ h5_ h6_ h7_ h8_ h9_ h10_ h11_ h12_ h13_ h14_ h15_ h16_ h17_ h18_
      have HO226 := n0_
      have HO229 := n1_
      have HO_217000 := n2_
      have HO_217001 := n3_
      have HO_4 := n4_
      have BK208 := n5_
      have BK216 := n6_
      have BK232 := n7_
      have GW232 := n8_
      have GE232 := n9_
      have NB0_232 := n10_
      have NB232_0 := n11_
      have NB208_232 := n12_
      have NB232_208 := n13_
      have NB216_232 := n14_
      have NB232_216 := n15_
      have HI0 := n16_
      have HK := n17_
      have HB := n18_
      clear n0_ n1_ n2_ n3_ n4_ n5_ n6_ n7_ n8_ n9_ n10_ n11_ n12_ n13_ n14_ n15_ n16_ n17_ n18_
      have hHeld : w23.cell? ⟨gb216, 0, none⟩ = some (.slice Ao18 x217000_1.length co18) ∧ w23.cell? ⟨gb216, 1, none⟩ = some (.slice Ao19 x217001_1.length co19) ∧ w23.cell? ⟨gb216, 2, none⟩ = some (.int .i64 x217002_1) ∧ w23.cell? (ad221.add ((x5_1).toNat * 4)) = some (.int .i64 ((rd_T37 t217 x5_1).f0)) ∧ w23.cell? ⟨(ad221.add ((x5_1).toNat * 4)).block, (ad221.add ((x5_1).toNat * 4)).off + 1, none⟩ = some (.int .u64 ((rd_T37 t217 x5_1).f1)) ∧ w23.cell? ⟨(ad221.add ((x5_1).toNat * 4)).block, (ad221.add ((x5_1).toNat * 4)).off + 2, none⟩ = some (.int .i64 ((rd_T37 t217 x5_1).f2)) ∧ w23.cell? ⟨(ad221.add ((x5_1).toNat * 4)).block, (ad221.add ((x5_1).toNat * 4)).off + 3, none⟩ = some (.int .i64 ((rd_T37 t217 x5_1).f3)) ∧ w23.cell? (ad221.add ((x5_1).toNat * 4)) = some (.int .i64 ((rd_T37 t217 x5_1).f0)) ∧ w23.cell? ⟨(ad221.add ((x5_1).toNat * 4)).block, (ad221.add ((x5_1).toNat * 4)).off + 1, none⟩ = some (.int .u64 ((rd_T37 t217 x5_1).f1)) ∧ w23.cell? ⟨(ad221.add ((x5_1).toNat * 4)).block, (ad221.add ((x5_1).toNat * 4)).off + 2, none⟩ = some (.int .i64 ((rd_T37 t217 x5_1).f2)) ∧ w23.cell? ⟨(ad221.add ((x5_1).toNat * 4)).block, (ad221.add ((x5_1).toNat * 4)).off + 3, none⟩ = some (.int .i64 ((rd_T37 t217 x5_1).f3)) := hS_
      obtain ⟨Ao24, co24, eo24⟩ := Kd.R_slice HO226.out
      (first | subst eo24 | (injection eo24 with f1_ f2_ f3_; have f4_ := f1_.symm; have f5_ := f3_.symm; clear f1_ f2_ f3_; subst f4_; subst f5_))
      obtain ⟨Ao26, co26, eo26⟩ := Kd.R_slice HO229.out
      (first | subst eo26 | (injection eo26 with f1_ f2_ f3_; have f4_ := f1_.symm; have f5_ := f3_.symm; clear f1_ f2_ f3_; subst f4_; subst f5_))
      refine norm_ (a' := ?_) ?_ ?_
      rotate_left
      ·simp only [putAll, Act.put, List.setIfInBounds_toArray, List.set_cons_zero, List.set_cons_succ]
       rfl
      refine one_ (i := 16) (N := none) (bs_ 18 131071) rfl rfl (one_of HT_.out qdk5_15) (by decide) (fun K hK => ?_)
      have hs25 : w23.cell? ⟨gb232, 0, none⟩ = some (.slice none 0 0) := (blk_cell BK232.out 0).trans rfl
      have hfs25 := blk_frozen BK232.out 0
      have hns25_0 := NB208_232.out
      have hns25_1 := NB216_232.out
      have hms25_0 := NB232_208.out
      have hms25_1 := NB232_216.out
      have hs27 : w23.cell? ⟨gb232, 1, none⟩ = some (.slice none 0 0) := (blk_cell BK232.out 1).trans rfl
      have hfs27 := blk_frozen BK232.out 1
      have hns27_0 := NB208_232.out
      have hns27_1 := NB216_232.out
      have hms27_0 := NB232_208.out
      have hms27_1 := NB232_216.out
      have hs28 : w23.cell? ⟨gb232, 2, none⟩ = some (.int .i64 0) := (blk_cell BK232.out 2).trans rfl
      have hfs28 := blk_frozen BK232.out 2
      have hns28_0 := NB208_232.out
      have hns28_1 := NB216_232.out
      have hms28_0 := NB232_208.out
      have hms28_1 := NB232_216.out
      refine skip_ (w1 := ?_) (by rfl) rfl ?_ ?_
      rotate_left
      ·go_simp
       rfl
      refine hK.out _ _ ⟨((cell_far (p := ⟨gb232, _, none⟩) NB216_232.out _).trans (((cell_far (p := ⟨gb232, _, none⟩) NB216_232.out _).trans (((cell_far (p := ⟨gb232, _, none⟩) NB216_232.out _).trans (hHeld.1)))))), ((cell_far (p := ⟨gb232, _, none⟩) NB216_232.out _).trans (((cell_far (p := ⟨gb232, _, none⟩) NB216_232.out _).trans (((cell_far (p := ⟨gb232, _, none⟩) NB216_232.out _).trans (hHeld.2.1)))))), ((cell_far (p := ⟨gb232, _, none⟩) NB216_232.out _).trans (((cell_far (p := ⟨gb232, _, none⟩) NB216_232.out _).trans (((cell_far (p := ⟨gb232, _, none⟩) NB216_232.out _).trans (hHeld.2.2.1)))))), ((cell_far (p := ⟨gb232, _, none⟩) (qdk5_1 HO_4 BK232) _).trans (((cell_far (p := ⟨gb232, _, none⟩) (qdk5_1 HO_4 BK232) _).trans (((cell_far (p := ⟨gb232, _, none⟩) (qdk5_1 HO_4 BK232) _).trans (hHeld.2.2.2.1)))))), ((cell_far (p := ⟨gb232, _, none⟩) (qdk5_1 HO_4 BK232) _).trans (((cell_far (p := ⟨gb232, _, none⟩) (qdk5_1 HO_4 BK232) _).trans (((cell_far (p := ⟨gb232, _, none⟩) (qdk5_1 HO_4 BK232) _).trans (hHeld.2.2.2.2.1)))))), ((cell_far (p := ⟨gb232, _, none⟩) (qdk5_1 HO_4 BK232) _).trans (((cell_far (p := ⟨gb232, _, none⟩) (qdk5_1 HO_4 BK232) _).trans (((cell_far (p := ⟨gb232, _, none⟩) (qdk5_1 HO_4 BK232) _).trans (hHeld.2.2.2.2.2.1)))))), ((cell_far (p := ⟨gb232, _, none⟩) (qdk5_1 HO_4 BK232) _).trans (((cell_far (p := ⟨gb232, _, none⟩) (qdk5_1 HO_4 BK232) _).trans (((cell_far (p := ⟨gb232, _, none⟩) (qdk5_1 HO_4 BK232) _).trans (hHeld.2.2.2.2.2.2.1)))))), ((cell_far (p := ⟨gb232, _, none⟩) (qdk5_1 HO_4 BK232) _).trans (((cell_far (p := ⟨gb232, _, none⟩) (qdk5_1 HO_4 BK232) _).trans (((cell_far (p := ⟨gb232, _, none⟩) (qdk5_1 HO_4 BK232) _).trans (hHeld.2.2.2.2.2.2.2.1)))))), ((cell_far (p := ⟨gb232, _, none⟩) (qdk5_1 HO_4 BK232) _).trans (((cell_far (p := ⟨gb232, _, none⟩) (qdk5_1 HO_4 BK232) _).trans (((cell_far (p := ⟨gb232, _, none⟩) (qdk5_1 HO_4 BK232) _).trans (hHeld.2.2.2.2.2.2.2.2.1)))))), ((cell_far (p := ⟨gb232, _, none⟩) (qdk5_1 HO_4 BK232) _).trans (((cell_far (p := ⟨gb232, _, none⟩) (qdk5_1 HO_4 BK232) _).trans (((cell_far (p := ⟨gb232, _, none⟩) (qdk5_1 HO_4 BK232) _).trans (hHeld.2.2.2.2.2.2.2.2.2.1)))))), ((cell_far (p := ⟨gb232, _, none⟩) (qdk5_1 HO_4 BK232) _).trans (((cell_far (p := ⟨gb232, _, none⟩) (qdk5_1 HO_4 BK232) _).trans (((cell_far (p := ⟨gb232, _, none⟩) (qdk5_1 HO_4 BK232) _).trans (hHeld.2.2.2.2.2.2.2.2.2.2))))))⟩ (fun hHeld => ?_)
      clear hK K
      refine pure_ (i := 17) (N := some 7) (bs_ 18 262143) rfl rfl (any_of HT_.out qdk5_15) (fun _ _ _ h => h) (Or.inl ⟨by rfl, qpy_pdkx5⟩) qpa_pdkx5 ?_
      refine done_ (done_of HT_.out qdk5_15) ?_
      have hnb29 := NB232_208.out
      have hnc29 := NB208_232.out
      have hnb30 := NB232_216.out
      have hnc30 := NB216_232.out
      have hnb31 := NB232_0.out
      have hnc31 := NB0_232.out
      have hcz32_0 : w23.cell? ⟨gb232, 0, none⟩ = some (.slice none 0 0) := (blk_cell BK232.out 0).trans rfl
      have hcz32_1 : w23.cell? ⟨gb232, 1, none⟩ = some (.slice none 0 0) := (blk_cell BK232.out 1).trans rfl
      have hcz32_2 : w23.cell? ⟨gb232, 2, none⟩ = some (.int .i64 0) := (blk_cell BK232.out 2).trans rfl
      have hfz32_0 := blk_frozen BK232.out 0
      have hfz32_1 := blk_frozen BK232.out 1
      have hfz32_2 := blk_frozen BK232.out 2
      have hnb33 := NB216_208.out
      have hnc33 := NB208_216.out
      have hnb34 := NB216_0.out
      have hnc34 := NB0_216.out
      have hcz35_0 : w23.cell? ⟨gb216, 0, none⟩ = some (.slice Ao18 x217000_1.length co18) := (blk_cell BK216.out 0).trans rfl
      have hcz35_1 : w23.cell? ⟨gb216, 1, none⟩ = some (.slice Ao19 x217001_1.length co19) := (blk_cell BK216.out 1).trans rfl
      have hcz35_2 : w23.cell? ⟨gb216, 2, none⟩ = some (.int .i64 x217002_1) := (blk_cell BK216.out 2).trans rfl
      have hfz35_0 := blk_frozen BK216.out 0
      have hfz35_1 := blk_frozen BK216.out 1
      have hfz35_2 := blk_frozen BK216.out 2
      try go_wp2
      go_roundg k1
      case measure => have := HK1.out; omega
      case rel => exact ⟨(wrap64 (x5_1 + 1)), (t224), (t227), (t230), (.slice Ao24 t224.length co24), (.slice Ao26 t227.length co26), (by first | rfl | (simp; done) | (simp [*]; done)), H', ⟨(by have := HK1.out; omega)⟩, ⟨(rdk5_1 HO_4 BK232 BK216)⟩, ⟨(rdk5_1 HO226 BK232 BK216)⟩, ⟨(rdk5_1 HO229 BK232 BK216)⟩, ⟨(rdk5_3 NB208_216 NB208_232 BK208)⟩, ⟨(by (with_reducible repeat (first | refine blk_drewN ?_ _ | refine blk_drew ?_ | refine blk_alloc ?_ _)); refine blk_put (cs := #[.slice Ao24 t224.length co24, .slice Ao26 t227.length co26, .int .i64 x217002_1]) ?_ 2 _ rfl; (with_reducible repeat (first | refine blk_drewN ?_ _ | refine blk_drew ?_ | refine blk_alloc ?_ _)); refine blk_put (cs := #[.slice Ao24 t224.length co24, .slice Ao19 x217001_1.length co19, .int .i64 x217002_1]) ?_ 1 _ rfl; (with_reducible repeat (first | refine blk_drewN ?_ _ | refine blk_drew ?_ | refine blk_alloc ?_ _)); refine blk_put (cs := #[.slice Ao18 x217000_1.length co18, .slice Ao19 x217001_1.length co19, .int .i64 x217002_1]) ?_ 0 _ rfl; (with_reducible repeat (first | refine blk_drewN ?_ _ | refine blk_drew ?_ | refine blk_alloc ?_ _)); refine blk_far ?_ NB216_232.out _; (with_reducible repeat (first | refine blk_drewN ?_ _ | refine blk_drew ?_ | refine blk_alloc ?_ _)); refine blk_far ?_ NB216_232.out _; (with_reducible repeat (first | refine blk_drewN ?_ _ | refine blk_drew ?_ | refine blk_alloc ?_ _)); refine blk_far ?_ NB216_232.out _; (with_reducible repeat (first | refine blk_drewN ?_ _ | refine blk_drew ?_ | refine blk_alloc ?_ _)); exact BK216.out)⟩, ⟨(by repeat (first | (with_reducible first | exact HI0.out | apply IsS94.alloc | apply IsS94.drewN | apply IsS94.drew | apply IsS94.set_1 | refine IsS94.far ?_ NB0_208.out _ | refine IsS94.far ?_ NB0_216.out _ | refine IsS94.far ?_ NB0_232.out _) | exact HI0.out))⟩, ⟨(by repeat (first | (with_reducible first | exact HK.out | apply KeepBut.set_ | apply keep_drewN | apply keep_drew | apply keep_alloc | refine keep_far ?_ GW208.out _ | refine keep_far ?_ GW216.out _ | refine keep_far ?_ GW232.out _) | exact HK.out))⟩, ⟨(by repeat (first | (with_reducible first | exact HB.out | apply below_alloc | apply pw_below_drewN | apply below_drew1 | refine below_set ?_ (IsS94.ge HI0.out) | refine below_set ?_ GE208.out | refine below_set ?_ GE216.out | refine below_set ?_ GE232.out) | exact HB.out))⟩⟩
     rw [if_neg c15] at H
     have c15b0 : (((rd_T37 t217 x5_1).f0) == 3) = false := beq_eq_false_iff_ne.mpr c15
     have c15b1 : (((rd_T37 t217 x5_1).f0) != 3) = true := bne_iff_ne.mpr c15
     replace H := Option.bind_eq_some_iff.mp H
     obtain ⟨⟨t236, t239, t242, t243⟩, A360, H⟩ := H
     replace H : (spec_l7Draw.l0 k1 t217 (wrap64 (x5_1 + 1)) s0_0 t220 t236 t239 t242) = some (r1, r2, r3, r4) := H
     have A36 := Aside0.mk A360
     clear A360
     have H' := Aside0.mk H
     clear H
     obtain ⟨Ao37, co37, eo37⟩ := Kd.R_slice HO_4.out
     subst eo37
     have p221 : 0 ≤ (x5_1 : Int) := of_decide_eq_true qdk5_14
     have q221 : x5_1 < (t217.length : Int) := of_decide_eq_true qdk5_14
     obtain ⟨ad221, e221, hx221_0, hx221_1, hx221_2, hx221_3⟩ := at_T37 (Kd.R_reads' HO_4.out).2.2 x5_1 p221 q221
     cases e221
     replace p221 := eq_true p221
     replace q221 := eq_true q221
     obtain ⟨Ao38, co38, eo38⟩ := Kd.R_slice HO_217000.out
     subst eo38
     obtain ⟨Ao39, co39, eo39⟩ := Kd.R_slice HO_217001.out
     subst eo39
     try go_wp2
     have n0_ := Aside0.mk (Kd.R_drew HO_4.out)
     have n1_ := Aside0.mk (Kd.R_drew HO_217000.out)
     have n2_ := Aside0.mk (Kd.R_drew HO_217001.out)
     have n3_ := Aside0.mk (blk_drew BK208.out)
     have n4_ := Aside0.mk (blk_drew BK216.out)
     have n5_ := Aside0.mk (IsS94.drew HI0.out)
     have n6_ := Aside0.mk (keep_drew HK.out)
     have n7_ := Aside0.mk (below_drew1 HB.out)
     clear HO_4 HO_217000 HO_217001 BK208 BK216 HI0 HK HB
     have HO_4 := n0_
     have HO_217000 := n1_
     have HO_217001 := n2_
     have BK208 := n3_
     have BK216 := n4_
     have HI0 := n5_
     have HK := n6_
     have HB := n7_
     clear n0_ n1_ n2_ n3_ n4_ n5_ n6_ n7_
     have p233 : 0 ≤ (x5_1 : Int) := of_decide_eq_true qdk5_14
     have q233 : x5_1 < (t217.length : Int) := of_decide_eq_true qdk5_14
     obtain ⟨ad233, e233, hx233_0, hx233_1, hx233_2, hx233_3⟩ := at_T37 (Kd.R_reads' HO_4.out).2.2 x5_1 p233 q233
     obtain rfl : ad221 = ad233 := (by injection e233)
     replace p233 := eq_true p233
     replace q233 := eq_true q233
     have p234 : 0 ≤ (x5_1 : Int) := of_decide_eq_true qdk5_14
     have q234 : x5_1 < (t217.length : Int) := of_decide_eq_true qdk5_14
     obtain ⟨ad234, e234, hx234_0, hx234_1, hx234_2, hx234_3⟩ := at_T37 (Kd.R_reads' HO_4.out).2.2 x5_1 p234 q234
     obtain rfl : ad221 = ad234 := (by injection e234)
     replace p234 := eq_true p234
     replace q234 := eq_true q234
     have p235 : 0 ≤ (x5_1 : Int) := of_decide_eq_true qdk5_14
     have q235 : x5_1 < (t217.length : Int) := of_decide_eq_true qdk5_14
     obtain ⟨ad235, e235, hx235_0, hx235_1, hx235_2, hx235_3⟩ := at_T37 (Kd.R_reads' HO_4.out).2.2 x5_1 p235 q235
     obtain rfl : ad221 = ad235 := (by injection e235)
     replace p235 := eq_true p235
     replace q235 := eq_true q235
     refine start_ (n := 23) (S := fun w' => w'.cell? ⟨gb216, 0, none⟩ = some (.slice Ao38 x217000_1.length co38) ∧ w'.cell? ⟨gb216, 1, none⟩ = some (.slice Ao39 x217001_1.length co39) ∧ w'.cell? ⟨gb216, 2, none⟩ = some (.int .i64 x217002_1) ∧ w'.cell? (ad221.add ((x5_1).toNat * 4)) = some (.int .i64 ((rd_T37 t217 x5_1).f0)) ∧ w'.cell? ⟨(ad221.add ((x5_1).toNat * 4)).block, (ad221.add ((x5_1).toNat * 4)).off + 1, none⟩ = some (.int .u64 ((rd_T37 t217 x5_1).f1)) ∧ w'.cell? ⟨(ad221.add ((x5_1).toNat * 4)).block, (ad221.add ((x5_1).toNat * 4)).off + 2, none⟩ = some (.int .i64 ((rd_T37 t217 x5_1).f2)) ∧ w'.cell? ⟨(ad221.add ((x5_1).toNat * 4)).block, (ad221.add ((x5_1).toNat * 4)).off + 3, none⟩ = some (.int .i64 ((rd_T37 t217 x5_1).f3)) ∧ w'.cell? (ad221.add ((x5_1).toNat * 4)) = some (.int .i64 ((rd_T37 t217 x5_1).f0)) ∧ w'.cell? ⟨(ad221.add ((x5_1).toNat * 4)).block, (ad221.add ((x5_1).toNat * 4)).off + 1, none⟩ = some (.int .u64 ((rd_T37 t217 x5_1).f1)) ∧ w'.cell? ⟨(ad221.add ((x5_1).toNat * 4)).block, (ad221.add ((x5_1).toNat * 4)).off + 2, none⟩ = some (.int .i64 ((rd_T37 t217 x5_1).f2)) ∧ w'.cell? ⟨(ad221.add ((x5_1).toNat * 4)).block, (ad221.add ((x5_1).toNat * 4)).off + 3, none⟩ = some (.int .i64 ((rd_T37 t217 x5_1).f3)) ∧ w'.cell? (ad221.add ((x5_1).toNat * 4)) = some (.int .i64 ((rd_T37 t217 x5_1).f0)) ∧ w'.cell? ⟨(ad221.add ((x5_1).toNat * 4)).block, (ad221.add ((x5_1).toNat * 4)).off + 1, none⟩ = some (.int .u64 ((rd_T37 t217 x5_1).f1)) ∧ w'.cell? ⟨(ad221.add ((x5_1).toNat * 4)).block, (ad221.add ((x5_1).toNat * 4)).off + 2, none⟩ = some (.int .i64 ((rd_T37 t217 x5_1).f2)) ∧ w'.cell? ⟨(ad221.add ((x5_1).toNat * 4)).block, (ad221.add ((x5_1).toNat * 4)).off + 3, none⟩ = some (.int .i64 ((rd_T37 t217 x5_1).f3))) (ds := []) (bs_ 23 0) qdk5_15 rfl rfl ⟨(blk_cell BK216.out 0).trans rfl, (blk_cell BK216.out 1).trans rfl, (blk_cell BK216.out 2).trans rfl, hx233_0, hx233_1, hx233_2, hx233_3, hx234_0, hx234_1, hx234_2, hx234_3, hx235_0, hx235_1, hx235_2, hx235_3⟩ (fun hHeld => ?_); refine with_tabW spec_l7Draw.tab9 spec_l7Draw.bits9 (fun HT_ HW_ => ?_)
     generalize wr.drew = w40 at HO_4 HO_217000 HO_217001 BK208 BK216 HI0 HK HB hx233_0 hx233_1 hx233_2 hx233_3 hx234_0 hx234_1 hx234_2 hx234_3 hx235_0 hx235_1 hx235_2 hx235_3 hHeld ⊢
     refine pure_ (i := 1) (N := some 43) (bs_ 23 2) rfl rfl (any_of HT_.out qdk5_15) (fun _ _ _ h => h) (Or.inl ⟨by rfl, qpy_pdkx5⟩) qpa_pdkx5 ?_
     refine pure_ (i := 2) (N := some 44) (bs_ 23 6) rfl rfl (any_of HT_.out qdk5_15) (fun _ _ _ h => h) (Or.inl ⟨by rfl, qpy_pdkx5⟩) qpa_pdkx5 ?_
     refine pure_ (i := 3) (N := some 45) (bs_ 23 14) rfl rfl (any_of HT_.out qdk5_15) (fun _ _ _ h => h) (Or.inl ⟨by rfl, qpy_pdkx5⟩) qpa_pdkx5 ?_
     refine pure_ (i := 4) (N := some 46) (bs_ 23 30) rfl rfl (any_of HT_.out qdk5_15) (fun _ _ _ h => h) (Or.inl ⟨by rfl, qpy_pdkx5⟩) qpa_pdkx5 ?_
     refine pure_ (i := 6) (N := some 48) (bs_ 23 94) rfl rfl (any_of HT_.out qdk5_15) (fun _ _ _ h => h) (Or.inl ⟨by rfl, qpy_pdkx5⟩) qpa_pdkx5 ?_
     refine pure_ (i := 7) (N := some 49) (bs_ 23 222) rfl rfl (any_of HT_.out qdk5_15) (fun _ _ _ h => h) (Or.inl ⟨by rfl, qpy_pdkx5⟩) qpa_pdkx5 ?_
     refine pure_ (i := 8) (N := some 50) (bs_ 23 478) rfl rfl (any_of HT_.out qdk5_15) (fun _ _ _ h => h) (Or.inl ⟨by rfl, qpy_pdkx5⟩) qpa_pdkx5 ?_
     refine pure_ (i := 9) (N := some 51) (bs_ 23 990) rfl rfl (any_of HT_.out qdk5_15) (fun _ _ _ h => h) (Or.inl ⟨by rfl, qpy_pdkx5⟩) qpa_pdkx5 ?_
     refine pure_ (i := 11) (N := some 53) (bs_ 23 3038) rfl rfl (any_of HT_.out qdk5_15) (fun _ _ _ h => h) (Or.inl ⟨by rfl, qpy_pdkx5⟩) qpa_pdkx5 ?_
     refine pure_ (i := 12) (N := some 54) (bs_ 23 7134) rfl rfl (any_of HT_.out qdk5_15) (fun _ _ _ h => h) (Or.inl ⟨by rfl, qpy_pdkx5⟩) qpa_pdkx5 ?_
     refine pure_ (i := 13) (N := some 55) (bs_ 23 15326) rfl rfl (any_of HT_.out qdk5_15) (fun _ _ _ h => h) (Or.inl ⟨by rfl, qpy_pdkx5⟩) qpa_pdkx5 ?_
     refine pure_ (i := 14) (N := some 56) (bs_ 23 31710) rfl rfl (any_of HT_.out qdk5_15) (fun _ _ _ h => h) (Or.inl ⟨by rfl, qpy_pdkx5⟩) qpa_pdkx5 ?_
     refine take_ (i := 0) (N := some 42) (bs_ 23 31711) rfl rfl (take_ofW HT_.out HW_.out qdk5_15) (fun _ _ _ h => h) (Or.inl ⟨by rfl, qpt15_pdkx5⟩) hHeld qpa_pdkx5 ?_
     refine take_ (i := 5) (N := some 47) (bs_ 23 31743) rfl rfl (take_ofW HT_.out HW_.out qdk5_15) (fun _ _ _ h => h) (Or.inl ⟨by rfl, qpt15_pdkx5⟩) hHeld qpa_pdkx5 ?_
     refine take_ (i := 10) (N := some 52) (bs_ 23 32767) rfl rfl (take_ofW HT_.out HW_.out qdk5_15) (fun _ _ _ h => h) (Or.inl ⟨by rfl, qpt15_pdkx5⟩) hHeld qpa_pdkx5 ?_
     refine take_ (i := 15) (N := some 57) (bs_ 23 65535) rfl rfl (take_ofW HT_.out HW_.out qdk5_15) (fun _ _ _ h => h) (Or.inl ⟨by rfl, qpt15_pdkx5⟩) hHeld qpa_pdkx5 ?_
     refine join_ (σ := Value × Value × Nat) 2 (bs_ 23 2097151) (fun s_ => [(58, .tuple #[.agg #[s_.1, s_.2.1, .int .i64 t242], .bool t243]), (8, .pointer (some ⟨s_.2.2, 0, none⟩)), (41, .tuple #[.agg #[s_.1, s_.2.1, .int .i64 t242], .bool t243]), (59, .agg #[s_.1, s_.2.1, .int .i64 t242]), (60, .bool t243)]) (fun s_ w' => (w'.cell? ⟨gb216, 0, none⟩ = some (.slice Ao38 x217000_1.length co38) ∧ w'.cell? ⟨gb216, 1, none⟩ = some (.slice Ao39 x217001_1.length co39) ∧ w'.cell? ⟨gb216, 2, none⟩ = some (.int .i64 x217002_1) ∧ w'.cell? (ad221.add ((x5_1).toNat * 4)) = some (.int .i64 ((rd_T37 t217 x5_1).f0)) ∧ w'.cell? ⟨(ad221.add ((x5_1).toNat * 4)).block, (ad221.add ((x5_1).toNat * 4)).off + 1, none⟩ = some (.int .u64 ((rd_T37 t217 x5_1).f1)) ∧ w'.cell? ⟨(ad221.add ((x5_1).toNat * 4)).block, (ad221.add ((x5_1).toNat * 4)).off + 2, none⟩ = some (.int .i64 ((rd_T37 t217 x5_1).f2)) ∧ w'.cell? ⟨(ad221.add ((x5_1).toNat * 4)).block, (ad221.add ((x5_1).toNat * 4)).off + 3, none⟩ = some (.int .i64 ((rd_T37 t217 x5_1).f3)) ∧ w'.cell? (ad221.add ((x5_1).toNat * 4)) = some (.int .i64 ((rd_T37 t217 x5_1).f0)) ∧ w'.cell? ⟨(ad221.add ((x5_1).toNat * 4)).block, (ad221.add ((x5_1).toNat * 4)).off + 1, none⟩ = some (.int .u64 ((rd_T37 t217 x5_1).f1)) ∧ w'.cell? ⟨(ad221.add ((x5_1).toNat * 4)).block, (ad221.add ((x5_1).toNat * 4)).off + 2, none⟩ = some (.int .i64 ((rd_T37 t217 x5_1).f2)) ∧ w'.cell? ⟨(ad221.add ((x5_1).toNat * 4)).block, (ad221.add ((x5_1).toNat * 4)).off + 3, none⟩ = some (.int .i64 ((rd_T37 t217 x5_1).f3)) ∧ w'.cell? (ad221.add ((x5_1).toNat * 4)) = some (.int .i64 ((rd_T37 t217 x5_1).f0)) ∧ w'.cell? ⟨(ad221.add ((x5_1).toNat * 4)).block, (ad221.add ((x5_1).toNat * 4)).off + 1, none⟩ = some (.int .u64 ((rd_T37 t217 x5_1).f1)) ∧ w'.cell? ⟨(ad221.add ((x5_1).toNat * 4)).block, (ad221.add ((x5_1).toNat * 4)).off + 2, none⟩ = some (.int .i64 ((rd_T37 t217 x5_1).f2)) ∧ w'.cell? ⟨(ad221.add ((x5_1).toNat * 4)).block, (ad221.add ((x5_1).toNat * 4)).off + 3, none⟩ = some (.int .i64 ((rd_T37 t217 x5_1).f3))) ∧ (Kd.R (Kd.int .i64) 2 w' w.heap.size (fun k_ => some k_ ≠ (.slice Ao38 x217000_1.length co38 : Value).ownBlock) s_.1 t236) ∧ (Kd.R k62 62 w' w.heap.size (fun k_ => some k_ ≠ (.slice Ao39 x217001_1.length co39 : Value).ownBlock) s_.2.1 t239) ∧ (Kd.R (Kd.int .i64) 2 w' w.heap.size (fun k_ => some k_ ≠ (s_.1 : Value).ownBlock) (.slice Ao38 x217000_1.length co38) x217000_1) ∧ (Kd.R k62 62 w' w.heap.size (fun k_ => some k_ ≠ (s_.2.1 : Value).ownBlock) (.slice Ao39 x217001_1.length co39) x217001_1) ∧ (Kd.R k37 37 w' w.heap.size (fun _ => True) (.slice (some ad221) t217.length co37) t217) ∧ (w'.heap[gb208]? = some (.cells #[.slice none 0 0, .slice none 0 0, .int .i64 0] 25 (0, 0))) ∧ (w'.heap[gb216]? = some (.cells #[.slice Ao38 x217000_1.length co38, .slice Ao39 x217001_1.length co39, .int .i64 x217002_1] 25 (0, 0))) ∧ (w'.heap[s_.2.2]? = some (.cells #[.slice none 0 0, .slice none 0 0, .int .i64 0] 25 (0, 0))) ∧ (w.heap.size ≤ s_.2.2) ∧ (w0.heap.size ≤ s_.2.2) ∧ (g ≠ s_.2.2) ∧ (s_.2.2 ≠ g) ∧ (gb208 ≠ s_.2.2) ∧ (s_.2.2 ≠ gb208) ∧ (gb216 ≠ s_.2.2) ∧ (s_.2.2 ≠ gb216) ∧ (IsS94 w0 w' g s0_0 t220) ∧ (KeepBut w w' g none) ∧ (Below w0.heap.size w0 w')) ?_ ?_
     rotate_left
     ·intro hCont
      refine two_ (i := 16) (j := 20) (Ni := some 58) (Nj := some 8) (bs_ 23 131071) (bs_ 23 1114111) rfl rfl rfl rfl (two_of HT_.out qdk5_15) (by decide) (by decide) (fun K hK => ?_) (fun K hK => ?_)
      ·skip
       refine goes_ Try.func59 qdk5_15 rfl #[.agg #[.slice Ao38 x217000_1.length co38, .slice Ao39 x217001_1.length co39, .int .i64 x217002_1], .int .u64 ((rd_T37 t217 x5_1).f1), .int .i64 ((rd_T37 t217 x5_1).f2), .int .i64 ((rd_T37 t217 x5_1).f3)] (by rfl) rfl rfl qdk5_13 ?_
       with_reducible refine (spec_l7Put.calls k1 _ _ x217000_1 _ _ x217001_1 x217002_1 ((rd_T37 t217 x5_1).f1) ((rd_T37 t217 x5_1).f2) ((rd_T37 t217 x5_1).f3) t236 t239 t242 t243 _ ?side1 ?side2 ?side3 ?side4 A36.out).mono ?_
       (case side1 => exact (qdk5_9 HO_217000))
       (case side2 => exact (Kd.R_reads' HO_217000.out).2.1)
       (case side3 => exact (qdk5_9 HO_217001))
       (case side4 => exact (Kd.R_reads' HO_217001.out).2.1)
       rintro e w41 ⟨v237, v240, rfl, ho0, ho1, hb⟩
       have HS3_ := hbc_pdkx5 hb hHeld.2.2.2.1
       have HS4_ := hbc_pdkx5 hb hHeld.2.2.2.2.1
       have HS5_ := hbc_pdkx5 hb hHeld.2.2.2.2.2.1
       have HS6_ := hbc_pdkx5 hb hHeld.2.2.2.2.2.2.1
       have HS7_ := hbc_pdkx5 hb hHeld.2.2.2.2.2.2.2.1
       have HS8_ := hbc_pdkx5 hb hHeld.2.2.2.2.2.2.2.2.1
       have HS9_ := hbc_pdkx5 hb hHeld.2.2.2.2.2.2.2.2.2.1
       have HS10_ := hbc_pdkx5 hb hHeld.2.2.2.2.2.2.2.2.2.2.1
       have HS11_ := hbc_pdkx5 hb hHeld.2.2.2.2.2.2.2.2.2.2.2.1
       have HS12_ := hbc_pdkx5 hb hHeld.2.2.2.2.2.2.2.2.2.2.2.2.1
       have HS13_ := hbc_pdkx5 hb hHeld.2.2.2.2.2.2.2.2.2.2.2.2.2.1
       have HS14_ := hbc_pdkx5 hb hHeld.2.2.2.2.2.2.2.2.2.2.2.2.2.2
       refine ⟨_, rfl, ?_⟩
       have n0_ := Aside0.mk (Kd.R_below (qdk5_3 HO_4) hb)
       have n1_ := Aside0.mk (Kd.R_elder' (qdk5_3 HO_217000) (Kd.R_base ho0) hb)
       have n2_ := Aside0.mk (Kd.R_elder' (qdk5_3 HO_217001) (Kd.R_base ho1) hb)
       have n3_ := Aside0.mk (Kd.R_lower (Kd.R_new' ho0 (Kd.R_lt (qdk5_3 HO_217000))) (keep_size (w := w) (g := g) (row := none) (qdk5_4 HK GW208 GW216)))
       have n4_ := Aside0.mk (Kd.R_lower (Kd.R_new' ho1 (Kd.R_lt (qdk5_3 HO_217001))) (keep_size (w := w) (g := g) (row := none) (qdk5_4 HK GW208 GW216)))
       have n5_ := Aside0.mk (blk_below (qdk5_2 BK208) hb)
       have n6_ := Aside0.mk (blk_below (qdk5_2 BK216) hb)
       have n7_ := Aside0.mk (IsS94.below (qdk5_8 NB0_208 NB0_216) hb)
       have n8_ := Aside0.mk (KeepBut.trans (qdk5_4 HK GW208 GW216) (KeepBut.of_below hb g none) (.inl rfl))
       have n9_ := Aside0.mk (below_step (qdk5_7 HB GE208 GE216) hb)
       clear HO_4 HO_217000 HO_217001 BK208 BK216 HI0 HK HB
       have HO_4 := n0_
       have HO_217000 := n1_
       have HO_217001 := n2_
       have HO238 := n3_
       have HO241 := n4_
       have BK208 := n5_
       have BK216 := n6_
       have HI0 := n7_
       have HK := n8_
       have HB := n9_
       clear n0_ n1_ n2_ n3_ n4_ n5_ n6_ n7_ n8_ n9_
       (try clear hb)
       (try clear hb2)
       (try clear hk)
       (try clear hi)
       (try clear ho0)
       (try clear ho1)
       refine hK.out _ _ ⟨(blk_cell BK216.out 0).trans rfl, (blk_cell BK216.out 1).trans rfl, (blk_cell BK216.out 2).trans rfl, HS3_, HS4_, HS5_, HS6_, HS7_, HS8_, HS9_, HS10_, HS11_, HS12_, HS13_, HS14_⟩ (fun hHeld => ?_)
       clear hK K
       refine norm_ (a' := ?_) ?_ ?_
       rotate_left
       ·show Act.put _ (some 58) _ = _
        simp only [Act.put, List.setIfInBounds_toArray, List.set_cons_zero, List.set_cons_succ, i64_w, i32_w]
        rfl
       refine pure_ (i := 17) (N := some 41) (bs_ 23 262143) rfl rfl (any_of HT_.out qdk5_15) (fun _ _ _ h => h) (Or.inl ⟨by rfl, qpy_pdkx5⟩) qpa_pdkx5 ?_
       refine pure_ (i := 18) (N := some 59) (bs_ 23 524287) rfl rfl (any_of HT_.out qdk5_15) (fun _ _ _ h => h) (Or.inl ⟨by rfl, qpy_pdkx5⟩) qpa_pdkx5 ?_
       refine pure_ (i := 19) (N := some 60) (bs_ 23 1048575) rfl rfl (any_of HT_.out qdk5_15) (fun _ _ _ h => h) (Or.inl ⟨by rfl, qpy_pdkx5⟩) qpa_pdkx5 ?_
       refine one_ (i := 20) (N := some 8) (bs_ 23 2097151) rfl rfl (one_of HT_.out qdk5_15) (by decide) (fun K hK => ?_)
       refine box_step ?hg (N := 8) ?hd (cs := #[.slice none 0 0, .slice none 0 0, .int .i64 0]) (t := 25) ?hr ?_; (case hd => rfl); (case hg => rfl); (case hr => exact (by first | (go_simp; done) | (go_simp; rfl)))
       intro gb244 hg w42 hbox hb
       have HS3_ := hbc_pdkx5 hb hHeld.2.2.2.1
       have HS4_ := hbc_pdkx5 hb hHeld.2.2.2.2.1
       have HS5_ := hbc_pdkx5 hb hHeld.2.2.2.2.2.1
       have HS6_ := hbc_pdkx5 hb hHeld.2.2.2.2.2.2.1
       have HS7_ := hbc_pdkx5 hb hHeld.2.2.2.2.2.2.2.1
       have HS8_ := hbc_pdkx5 hb hHeld.2.2.2.2.2.2.2.2.1
       have HS9_ := hbc_pdkx5 hb hHeld.2.2.2.2.2.2.2.2.2.1
       have HS10_ := hbc_pdkx5 hb hHeld.2.2.2.2.2.2.2.2.2.2.1
       have HS11_ := hbc_pdkx5 hb hHeld.2.2.2.2.2.2.2.2.2.2.2.1
       have HS12_ := hbc_pdkx5 hb hHeld.2.2.2.2.2.2.2.2.2.2.2.2.1
       have HS13_ := hbc_pdkx5 hb hHeld.2.2.2.2.2.2.2.2.2.2.2.2.2.1
       have HS14_ := hbc_pdkx5 hb hHeld.2.2.2.2.2.2.2.2.2.2.2.2.2.2
       have n0_ := Aside0.mk (Kd.R_below (qdk5_3 HO_4) hb)
       have n1_ := Aside0.mk (Kd.R_below (qdk5_3 HO_217000) hb)
       have n2_ := Aside0.mk (Kd.R_below (qdk5_3 HO_217001) hb)
       have n3_ := Aside0.mk (Kd.R_below (qdk5_3 HO238) hb)
       have n4_ := Aside0.mk (Kd.R_below (qdk5_3 HO241) hb)
       have n5_ := Aside0.mk (blk_below (qdk5_2 BK208) hb)
       have n6_ := Aside0.mk (blk_below (qdk5_2 BK216) hb)
       have n7_ := Aside0.mk (IsS94.below (qdk5_8 NB0_208 NB0_216) hb)
       have n8_ := Aside0.mk (KeepBut.trans (qdk5_4 HK GW208 GW216) (KeepBut.of_below hb g none) (.inl rfl))
       have n9_ := Aside0.mk (below_step (qdk5_7 HB GE208 GE216) hb)
       have n10_ := Aside0.mk (hbox)
       have n11_ := Aside0.mk ((by rw [hg]; exact (keep_size (w := w) (g := g) (row := none) (qdk5_4 HK GW208 GW216)) : w.heap.size ≤ gb244))
       have n12_ := Aside0.mk ((Nat.le_trans HW0.out (by rw [hg]; exact (keep_size (w := w) (g := g) (row := none) (qdk5_4 HK GW208 GW216)) : w.heap.size ≤ gb244) : w0.heap.size ≤ gb244))
       have n13_ := Aside0.mk ((qnl_pdkx5 BK208 hg : gb208 ≠ gb244))
       have n14_ := Aside0.mk ((qng_pdkx5 BK208 hg : gb244 ≠ gb208))
       have n15_ := Aside0.mk ((qnl_pdkx5 BK216 hg : gb216 ≠ gb244))
       have n16_ := Aside0.mk ((qng_pdkx5 BK216 hg : gb244 ≠ gb216))
       have n17_ := Aside0.mk ((by rw [hg]; exact Nat.ne_of_lt (IsS94.lt (show IsS94 w0 _ g s0_0 t220 from by repeat (first | (with_reducible first | exact HI0.out | apply IsS94.alloc | apply IsS94.drewN | apply IsS94.drew | apply IsS94.set_1 | refine IsS94.far ?_ NB0_208.out _ | refine IsS94.far ?_ NB0_216.out _) | exact HI0.out))) : g ≠ gb244))
       have n18_ := Aside0.mk ((by rw [hg]; exact Nat.ne_of_gt (IsS94.lt (show IsS94 w0 _ g s0_0 t220 from by repeat (first | (with_reducible first | exact HI0.out | apply IsS94.alloc | apply IsS94.drewN | apply IsS94.drew | apply IsS94.set_1 | refine IsS94.far ?_ NB0_208.out _ | refine IsS94.far ?_ NB0_216.out _) | exact HI0.out))) : gb244 ≠ g))
       clear HO_4 HO_217000 HO_217001 HO238 HO241 BK208 BK216 HI0 HK HB
       have HO_4 := n0_
       have HO_217000 := n1_
       have HO_217001 := n2_
       have HO238 := n3_
       have HO241 := n4_
       have BK208 := n5_
       have BK216 := n6_
       have HI0 := n7_
       have HK := n8_
       have HB := n9_
       have BK244 := n10_
       have GW244 := n11_
       have GE244 := n12_
       have NB208_244 := n13_
       have NB244_208 := n14_
       have NB216_244 := n15_
       have NB244_216 := n16_
       have NB0_244 := n17_
       have NB244_0 := n18_
       clear n0_ n1_ n2_ n3_ n4_ n5_ n6_ n7_ n8_ n9_ n10_ n11_ n12_ n13_ n14_ n15_ n16_ n17_ n18_ hb hbox hg
       refine hK.out _ _ ⟨(blk_cell BK216.out 0).trans rfl, (blk_cell BK216.out 1).trans rfl, (blk_cell BK216.out 2).trans rfl, HS3_, HS4_, HS5_, HS6_, HS7_, HS8_, HS9_, HS10_, HS11_, HS12_, HS13_, HS14_⟩ (fun hHeld => ?_)
       clear hK K
       refine norm_ (a' := ?_) ?_ ?_
       rotate_left
       ·show Act.put _ (some 8) _ = _
        simp only [Act.put, List.setIfInBounds_toArray, List.set_cons_zero, List.set_cons_succ, i64_w, i32_w]
        rfl
       exact norm_ qdk5_17 (hCont (v237, v240, gb244) _ ⟨hHeld, (qdk5_6 HO238), (qdk5_6 HO241), (qdk5_6 HO_217000), (qdk5_6 HO_217001), (qdk5_3 HO_4), (qdk5_2 BK208), (qdk5_2 BK216), (qdk5_2 BK244), GW244.out, GE244.out, NB0_244.out, NB244_0.out, NB208_244.out, NB244_208.out, NB216_244.out, NB244_216.out, (qdk5_11 NB0_208 NB0_216 NB0_244), (qdk5_5 HK GW208 GW216 GW244), (qdk5_10 HB GE208 GE216 GE244)⟩)
      skip
      refine box_step ?hg (N := 8) ?hd (cs := #[.slice none 0 0, .slice none 0 0, .int .i64 0]) (t := 25) ?hr ?_; (case hd => rfl); (case hg => rfl); (case hr => exact (by first | (go_simp; done) | (go_simp; rfl)))
      intro gb244 hg w41 hbox hb
      have HS3_ := hbc_pdkx5 hb hHeld.2.2.2.1
      have HS4_ := hbc_pdkx5 hb hHeld.2.2.2.2.1
      have HS5_ := hbc_pdkx5 hb hHeld.2.2.2.2.2.1
      have HS6_ := hbc_pdkx5 hb hHeld.2.2.2.2.2.2.1
      have HS7_ := hbc_pdkx5 hb hHeld.2.2.2.2.2.2.2.1
      have HS8_ := hbc_pdkx5 hb hHeld.2.2.2.2.2.2.2.2.1
      have HS9_ := hbc_pdkx5 hb hHeld.2.2.2.2.2.2.2.2.2.1
      have HS10_ := hbc_pdkx5 hb hHeld.2.2.2.2.2.2.2.2.2.2.1
      have HS11_ := hbc_pdkx5 hb hHeld.2.2.2.2.2.2.2.2.2.2.2.1
      have HS12_ := hbc_pdkx5 hb hHeld.2.2.2.2.2.2.2.2.2.2.2.2.1
      have HS13_ := hbc_pdkx5 hb hHeld.2.2.2.2.2.2.2.2.2.2.2.2.2.1
      have HS14_ := hbc_pdkx5 hb hHeld.2.2.2.2.2.2.2.2.2.2.2.2.2.2
      have n0_ := Aside0.mk (Kd.R_below (qdk5_3 HO_4) hb)
      have n1_ := Aside0.mk (Kd.R_below (qdk5_3 HO_217000) hb)
      have n2_ := Aside0.mk (Kd.R_below (qdk5_3 HO_217001) hb)
      have n3_ := Aside0.mk (blk_below (qdk5_2 BK208) hb)
      have n4_ := Aside0.mk (blk_below (qdk5_2 BK216) hb)
      have n5_ := Aside0.mk (IsS94.below (qdk5_8 NB0_208 NB0_216) hb)
      have n6_ := Aside0.mk (KeepBut.trans (qdk5_4 HK GW208 GW216) (KeepBut.of_below hb g none) (.inl rfl))
      have n7_ := Aside0.mk (below_step (qdk5_7 HB GE208 GE216) hb)
      have n8_ := Aside0.mk (hbox)
      have n9_ := Aside0.mk ((by rw [hg]; exact (keep_size (w := w) (g := g) (row := none) (qdk5_4 HK GW208 GW216)) : w.heap.size ≤ gb244))
      have n10_ := Aside0.mk ((Nat.le_trans HW0.out (by rw [hg]; exact (keep_size (w := w) (g := g) (row := none) (qdk5_4 HK GW208 GW216)) : w.heap.size ≤ gb244) : w0.heap.size ≤ gb244))
      have n11_ := Aside0.mk ((qnl_pdkx5 BK208 hg : gb208 ≠ gb244))
      have n12_ := Aside0.mk ((qng_pdkx5 BK208 hg : gb244 ≠ gb208))
      have n13_ := Aside0.mk ((qnl_pdkx5 BK216 hg : gb216 ≠ gb244))
      have n14_ := Aside0.mk ((qng_pdkx5 BK216 hg : gb244 ≠ gb216))
      have n15_ := Aside0.mk ((by rw [hg]; exact Nat.ne_of_lt (IsS94.lt (show IsS94 w0 _ g s0_0 t220 from by repeat (first | (with_reducible first | exact HI0.out | apply IsS94.alloc | apply IsS94.drewN | apply IsS94.drew | apply IsS94.set_1 | refine IsS94.far ?_ NB0_208.out _ | refine IsS94.far ?_ NB0_216.out _) | exact HI0.out))) : g ≠ gb244))
      have n16_ := Aside0.mk ((by rw [hg]; exact Nat.ne_of_gt (IsS94.lt (show IsS94 w0 _ g s0_0 t220 from by repeat (first | (with_reducible first | exact HI0.out | apply IsS94.alloc | apply IsS94.drewN | apply IsS94.drew | apply IsS94.set_1 | refine IsS94.far ?_ NB0_208.out _ | refine IsS94.far ?_ NB0_216.out _) | exact HI0.out))) : gb244 ≠ g))
      clear HO_4 HO_217000 HO_217001 BK208 BK216 HI0 HK HB
      have HO_4 := n0_
      have HO_217000 := n1_
      have HO_217001 := n2_
      have BK208 := n3_
      have BK216 := n4_
      have HI0 := n5_
      have HK := n6_
      have HB := n7_
      have BK244 := n8_
      have GW244 := n9_
      have GE244 := n10_
      have NB208_244 := n11_
      have NB244_208 := n12_
      have NB216_244 := n13_
      have NB244_216 := n14_
      have NB0_244 := n15_
      have NB244_0 := n16_
      clear n0_ n1_ n2_ n3_ n4_ n5_ n6_ n7_ n8_ n9_ n10_ n11_ n12_ n13_ n14_ n15_ n16_ hb hbox hg
      refine hK.out _ _ ⟨(blk_cell BK216.out 0).trans rfl, (blk_cell BK216.out 1).trans rfl, (blk_cell BK216.out 2).trans rfl, HS3_, HS4_, HS5_, HS6_, HS7_, HS8_, HS9_, HS10_, HS11_, HS12_, HS13_, HS14_⟩ (fun hHeld => ?_)
      clear hK K
      refine norm_ (a' := ?_) ?_ ?_
      rotate_left
      ·show Act.put _ (some 8) _ = _
       simp only [Act.put, List.setIfInBounds_toArray, List.set_cons_zero, List.set_cons_succ, i64_w, i32_w]
       rfl
      refine one_ (i := 16) (N := some 58) (bs_ 23 1179647) rfl rfl (one_of HT_.out qdk5_15) (by decide) (fun K hK => ?_)
      refine goes_ Try.func59 qdk5_15 rfl #[.agg #[.slice Ao38 x217000_1.length co38, .slice Ao39 x217001_1.length co39, .int .i64 x217002_1], .int .u64 ((rd_T37 t217 x5_1).f1), .int .i64 ((rd_T37 t217 x5_1).f2), .int .i64 ((rd_T37 t217 x5_1).f3)] (by rfl) rfl rfl qdk5_13 ?_
      with_reducible refine (spec_l7Put.calls k1 _ _ x217000_1 _ _ x217001_1 x217002_1 ((rd_T37 t217 x5_1).f1) ((rd_T37 t217 x5_1).f2) ((rd_T37 t217 x5_1).f3) t236 t239 t242 t243 _ ?side1 ?side2 ?side3 ?side4 A36.out).mono ?_
      (case side1 => exact (qdk5_9 HO_217000))
      (case side2 => exact (Kd.R_reads' HO_217000.out).2.1)
      (case side3 => exact (qdk5_9 HO_217001))
      (case side4 => exact (Kd.R_reads' HO_217001.out).2.1)
      rintro e w42 ⟨v237, v240, rfl, ho0, ho1, hb⟩
      have HS3_ := hbc_pdkx5 hb hHeld.2.2.2.1
      have HS4_ := hbc_pdkx5 hb hHeld.2.2.2.2.1
      have HS5_ := hbc_pdkx5 hb hHeld.2.2.2.2.2.1
      have HS6_ := hbc_pdkx5 hb hHeld.2.2.2.2.2.2.1
      have HS7_ := hbc_pdkx5 hb hHeld.2.2.2.2.2.2.2.1
      have HS8_ := hbc_pdkx5 hb hHeld.2.2.2.2.2.2.2.2.1
      have HS9_ := hbc_pdkx5 hb hHeld.2.2.2.2.2.2.2.2.2.1
      have HS10_ := hbc_pdkx5 hb hHeld.2.2.2.2.2.2.2.2.2.2.1
      have HS11_ := hbc_pdkx5 hb hHeld.2.2.2.2.2.2.2.2.2.2.2.1
      have HS12_ := hbc_pdkx5 hb hHeld.2.2.2.2.2.2.2.2.2.2.2.2.1
      have HS13_ := hbc_pdkx5 hb hHeld.2.2.2.2.2.2.2.2.2.2.2.2.2.1
      have HS14_ := hbc_pdkx5 hb hHeld.2.2.2.2.2.2.2.2.2.2.2.2.2.2
      refine ⟨_, rfl, ?_⟩
      have n0_ := Aside0.mk (Kd.R_below (qdk5_3 HO_4) hb)
      have n1_ := Aside0.mk (Kd.R_elder' (qdk5_3 HO_217000) (Kd.R_base ho0) hb)
      have n2_ := Aside0.mk (Kd.R_elder' (qdk5_3 HO_217001) (Kd.R_base ho1) hb)
      have n3_ := Aside0.mk (Kd.R_lower (Kd.R_new' ho0 (Kd.R_lt (qdk5_3 HO_217000))) (keep_size (w := w) (g := g) (row := none) (qdk5_5 HK GW208 GW216 GW244)))
      have n4_ := Aside0.mk (Kd.R_lower (Kd.R_new' ho1 (Kd.R_lt (qdk5_3 HO_217001))) (keep_size (w := w) (g := g) (row := none) (qdk5_5 HK GW208 GW216 GW244)))
      have n5_ := Aside0.mk (blk_below (qdk5_2 BK208) hb)
      have n6_ := Aside0.mk (blk_below (qdk5_2 BK216) hb)
      have n7_ := Aside0.mk (IsS94.below (qdk5_11 NB0_208 NB0_216 NB0_244) hb)
      have n8_ := Aside0.mk (blk_below (qdk5_2 BK244) hb)
      have n9_ := Aside0.mk (KeepBut.trans (qdk5_5 HK GW208 GW216 GW244) (KeepBut.of_below hb g none) (.inl rfl))
      have n10_ := Aside0.mk (below_step (qdk5_10 HB GE208 GE216 GE244) hb)
      clear HO_4 HO_217000 HO_217001 BK208 BK216 HI0 BK244 HK HB
      have HO_4 := n0_
      have HO_217000 := n1_
      have HO_217001 := n2_
      have HO238 := n3_
      have HO241 := n4_
      have BK208 := n5_
      have BK216 := n6_
      have HI0 := n7_
      have BK244 := n8_
      have HK := n9_
      have HB := n10_
      clear n0_ n1_ n2_ n3_ n4_ n5_ n6_ n7_ n8_ n9_ n10_
      (try clear hb)
      (try clear hb2)
      (try clear hk)
      (try clear hi)
      (try clear ho0)
      (try clear ho1)
      refine hK.out _ _ ⟨(blk_cell BK216.out 0).trans rfl, (blk_cell BK216.out 1).trans rfl, (blk_cell BK216.out 2).trans rfl, HS3_, HS4_, HS5_, HS6_, HS7_, HS8_, HS9_, HS10_, HS11_, HS12_, HS13_, HS14_⟩ (fun hHeld => ?_)
      clear hK K
      refine norm_ (a' := ?_) ?_ ?_
      rotate_left
      ·show Act.put _ (some 58) _ = _
       simp only [Act.put, List.setIfInBounds_toArray, List.set_cons_zero, List.set_cons_succ, i64_w, i32_w]
       rfl
      refine pure_ (i := 17) (N := some 41) (bs_ 23 1310719) rfl rfl (any_of HT_.out qdk5_15) (fun _ _ _ h => h) (Or.inl ⟨by rfl, qpy_pdkx5⟩) qpa_pdkx5 ?_
      refine pure_ (i := 18) (N := some 59) (bs_ 23 1572863) rfl rfl (any_of HT_.out qdk5_15) (fun _ _ _ h => h) (Or.inl ⟨by rfl, qpy_pdkx5⟩) qpa_pdkx5 ?_
      refine pure_ (i := 19) (N := some 60) (bs_ 23 2097151) rfl rfl (any_of HT_.out qdk5_15) (fun _ _ _ h => h) (Or.inl ⟨by rfl, qpy_pdkx5⟩) qpa_pdkx5 ?_
      exact norm_ qdk5_17 (hCont (v237, v240, gb244) _ ⟨hHeld, (qdk5_6 HO238), (qdk5_6 HO241), (qdk5_6 HO_217000), (qdk5_6 HO_217001), (qdk5_3 HO_4), (qdk5_2 BK208), (qdk5_2 BK216), (qdk5_2 BK244), GW244.out, GE244.out, NB0_244.out, NB244_0.out, NB208_244.out, NB244_208.out, NB216_244.out, NB244_216.out, (qdk5_11 NB0_208 NB0_216 NB0_244), (qdk5_5 HK GW208 GW216 GW244), (qdk5_10 HB GE208 GE216 GE244)⟩)
     rintro ⟨v237, v240, gb244⟩ w43 ⟨hS_, h0_, h1_, h2_, h3_, h4_, h5_, h6_, h7_, h8_, h9_, h10_, h11_, h12_, h13_, h14_, h15_, h16_, h17_, h18_⟩
     have n0_ : Aside0 (Kd.R (Kd.int .i64) 2 w43 w.heap.size (fun k_ => some k_ ≠ (.slice Ao38 x217000_1.length co38 : Value).ownBlock) v237 t236) := ⟨h0_⟩
     have n1_ : Aside0 (Kd.R k62 62 w43 w.heap.size (fun k_ => some k_ ≠ (.slice Ao39 x217001_1.length co39 : Value).ownBlock) v240 t239) := ⟨h1_⟩
     have n2_ : Aside0 (Kd.R (Kd.int .i64) 2 w43 w.heap.size (fun k_ => some k_ ≠ (v237 : Value).ownBlock) (.slice Ao38 x217000_1.length co38) x217000_1) := ⟨h2_⟩
     have n3_ : Aside0 (Kd.R k62 62 w43 w.heap.size (fun k_ => some k_ ≠ (v240 : Value).ownBlock) (.slice Ao39 x217001_1.length co39) x217001_1) := ⟨h3_⟩
     have n4_ : Aside0 (Kd.R k37 37 w43 w.heap.size (fun _ => True) (.slice (some ad221) t217.length co37) t217) := ⟨h4_⟩
     have n5_ : Aside0 (w43.heap[gb208]? = some (.cells #[.slice none 0 0, .slice none 0 0, .int .i64 0] 25 (0, 0))) := ⟨h5_⟩
     have n6_ : Aside0 (w43.heap[gb216]? = some (.cells #[.slice Ao38 x217000_1.length co38, .slice Ao39 x217001_1.length co39, .int .i64 x217002_1] 25 (0, 0))) := ⟨h6_⟩
     have n7_ : Aside0 (w43.heap[gb244]? = some (.cells #[.slice none 0 0, .slice none 0 0, .int .i64 0] 25 (0, 0))) := ⟨h7_⟩
     have n8_ : Aside0 (w.heap.size ≤ gb244) := ⟨h8_⟩
     have n9_ : Aside0 (w0.heap.size ≤ gb244) := ⟨h9_⟩
     have n10_ : Aside0 (g ≠ gb244) := ⟨h10_⟩
     have n11_ : Aside0 (gb244 ≠ g) := ⟨h11_⟩
     have n12_ : Aside0 (gb208 ≠ gb244) := ⟨h12_⟩
     have n13_ : Aside0 (gb244 ≠ gb208) := ⟨h13_⟩
     have n14_ : Aside0 (gb216 ≠ gb244) := ⟨h14_⟩
     have n15_ : Aside0 (gb244 ≠ gb216) := ⟨h15_⟩
     have n16_ : Aside0 (IsS94 w0 w43 g s0_0 t220) := ⟨h16_⟩
     have n17_ : Aside0 (KeepBut w w43 g none) := ⟨h17_⟩
     have n18_ : Aside0 (Below w0.heap.size w0 w43) := ⟨h18_⟩
     clear HO_4 HO_217000 HO_217001 BK208 BK216 HI0 HK HB h0_ h1_ h2_ h3_ h4_ h5_ h6_ h7_ h8_ h9_ h10_ h11_ h12_ h13_ h14_ h15_ h16_ h17_ h18_
     have HO238 := n0_
     have HO241 := n1_
     have HO_217000 := n2_
     have HO_217001 := n3_
     have HO_4 := n4_
     have BK208 := n5_
     have BK216 := n6_
     have BK244 := n7_
     have GW244 := n8_
     have GE244 := n9_
     have NB0_244 := n10_
     have NB244_0 := n11_
     have NB208_244 := n12_
     have NB244_208 := n13_
     have NB216_244 := n14_
     have NB244_216 := n15_
     have HI0 := n16_
     have HK := n17_
     have HB := n18_
     clear n0_ n1_ n2_ n3_ n4_ n5_ n6_ n7_ n8_ n9_ n10_ n11_ n12_ n13_ n14_ n15_ n16_ n17_ n18_
     have hHeld : w43.cell? ⟨gb216, 0, none⟩ = some (.slice Ao38 x217000_1.length co38) ∧ w43.cell? ⟨gb216, 1, none⟩ = some (.slice Ao39 x217001_1.length co39) ∧ w43.cell? ⟨gb216, 2, none⟩ = some (.int .i64 x217002_1) ∧ w43.cell? (ad221.add ((x5_1).toNat * 4)) = some (.int .i64 ((rd_T37 t217 x5_1).f0)) ∧ w43.cell? ⟨(ad221.add ((x5_1).toNat * 4)).block, (ad221.add ((x5_1).toNat * 4)).off + 1, none⟩ = some (.int .u64 ((rd_T37 t217 x5_1).f1)) ∧ w43.cell? ⟨(ad221.add ((x5_1).toNat * 4)).block, (ad221.add ((x5_1).toNat * 4)).off + 2, none⟩ = some (.int .i64 ((rd_T37 t217 x5_1).f2)) ∧ w43.cell? ⟨(ad221.add ((x5_1).toNat * 4)).block, (ad221.add ((x5_1).toNat * 4)).off + 3, none⟩ = some (.int .i64 ((rd_T37 t217 x5_1).f3)) ∧ w43.cell? (ad221.add ((x5_1).toNat * 4)) = some (.int .i64 ((rd_T37 t217 x5_1).f0)) ∧ w43.cell? ⟨(ad221.add ((x5_1).toNat * 4)).block, (ad221.add ((x5_1).toNat * 4)).off + 1, none⟩ = some (.int .u64 ((rd_T37 t217 x5_1).f1)) ∧ w43.cell? ⟨(ad221.add ((x5_1).toNat * 4)).block, (ad221.add ((x5_1).toNat * 4)).off + 2, none⟩ = some (.int .i64 ((rd_T37 t217 x5_1).f2)) ∧ w43.cell? ⟨(ad221.add ((x5_1).toNat * 4)).block, (ad221.add ((x5_1).toNat * 4)).off + 3, none⟩ = some (.int .i64 ((rd_T37 t217 x5_1).f3)) ∧ w43.cell? (ad221.add ((x5_1).toNat * 4)) = some (.int .i64 ((rd_T37 t217 x5_1).f0)) ∧ w43.cell? ⟨(ad221.add ((x5_1).toNat * 4)).block, (ad221.add ((x5_1).toNat * 4)).off + 1, none⟩ = some (.int .u64 ((rd_T37 t217 x5_1).f1)) ∧ w43.cell? ⟨(ad221.add ((x5_1).toNat * 4)).block, (ad221.add ((x5_1).toNat * 4)).off + 2, none⟩ = some (.int .i64 ((rd_T37 t217 x5_1).f2)) ∧ w43.cell? ⟨(ad221.add ((x5_1).toNat * 4)).block, (ad221.add ((x5_1).toNat * 4)).off + 3, none⟩ = some (.int .i64 ((rd_T37 t217 x5_1).f3)) := hS_
     obtain ⟨Ao44, co44, eo44⟩ := Kd.R_slice HO238.out
     (first | subst eo44 | (injection eo44 with f1_ f2_ f3_; have f4_ := f1_.symm; have f5_ := f3_.symm; clear f1_ f2_ f3_; subst f4_; subst f5_))
     obtain ⟨Ao46, co46, eo46⟩ := Kd.R_slice HO241.out
     (first | subst eo46 | (injection eo46 with f1_ f2_ f3_; have f4_ := f1_.symm; have f5_ := f3_.symm; clear f1_ f2_ f3_; subst f4_; subst f5_))
     refine norm_ (a' := ?_) ?_ ?_
     rotate_left
     ·simp only [putAll, Act.put, List.setIfInBounds_toArray, List.set_cons_zero, List.set_cons_succ]
      rfl
     refine one_ (i := 21) (N := none) (bs_ 23 4194303) rfl rfl (one_of HT_.out qdk5_15) (by decide) (fun K hK => ?_)
     have hs45 : w43.cell? ⟨gb244, 0, none⟩ = some (.slice none 0 0) := (blk_cell BK244.out 0).trans rfl
     have hfs45 := blk_frozen BK244.out 0
     have hns45_0 := NB208_244.out
     have hns45_1 := NB216_244.out
     have hms45_0 := NB244_208.out
     have hms45_1 := NB244_216.out
     have hs47 : w43.cell? ⟨gb244, 1, none⟩ = some (.slice none 0 0) := (blk_cell BK244.out 1).trans rfl
     have hfs47 := blk_frozen BK244.out 1
     have hns47_0 := NB208_244.out
     have hns47_1 := NB216_244.out
     have hms47_0 := NB244_208.out
     have hms47_1 := NB244_216.out
     have hs48 : w43.cell? ⟨gb244, 2, none⟩ = some (.int .i64 0) := (blk_cell BK244.out 2).trans rfl
     have hfs48 := blk_frozen BK244.out 2
     have hns48_0 := NB208_244.out
     have hns48_1 := NB216_244.out
     have hms48_0 := NB244_208.out
     have hms48_1 := NB244_216.out
     refine skip_ (w1 := ?_) (by rfl) rfl ?_ ?_
     rotate_left
     ·go_simp
      rfl
     refine hK.out _ _ ⟨((cell_far (p := ⟨gb244, _, none⟩) NB216_244.out _).trans (((cell_far (p := ⟨gb244, _, none⟩) NB216_244.out _).trans (((cell_far (p := ⟨gb244, _, none⟩) NB216_244.out _).trans (hHeld.1)))))), ((cell_far (p := ⟨gb244, _, none⟩) NB216_244.out _).trans (((cell_far (p := ⟨gb244, _, none⟩) NB216_244.out _).trans (((cell_far (p := ⟨gb244, _, none⟩) NB216_244.out _).trans (hHeld.2.1)))))), ((cell_far (p := ⟨gb244, _, none⟩) NB216_244.out _).trans (((cell_far (p := ⟨gb244, _, none⟩) NB216_244.out _).trans (((cell_far (p := ⟨gb244, _, none⟩) NB216_244.out _).trans (hHeld.2.2.1)))))), ((cell_far (p := ⟨gb244, _, none⟩) (qdk5_1 HO_4 BK244) _).trans (((cell_far (p := ⟨gb244, _, none⟩) (qdk5_1 HO_4 BK244) _).trans (((cell_far (p := ⟨gb244, _, none⟩) (qdk5_1 HO_4 BK244) _).trans (hHeld.2.2.2.1)))))), ((cell_far (p := ⟨gb244, _, none⟩) (qdk5_1 HO_4 BK244) _).trans (((cell_far (p := ⟨gb244, _, none⟩) (qdk5_1 HO_4 BK244) _).trans (((cell_far (p := ⟨gb244, _, none⟩) (qdk5_1 HO_4 BK244) _).trans (hHeld.2.2.2.2.1)))))), ((cell_far (p := ⟨gb244, _, none⟩) (qdk5_1 HO_4 BK244) _).trans (((cell_far (p := ⟨gb244, _, none⟩) (qdk5_1 HO_4 BK244) _).trans (((cell_far (p := ⟨gb244, _, none⟩) (qdk5_1 HO_4 BK244) _).trans (hHeld.2.2.2.2.2.1)))))), ((cell_far (p := ⟨gb244, _, none⟩) (qdk5_1 HO_4 BK244) _).trans (((cell_far (p := ⟨gb244, _, none⟩) (qdk5_1 HO_4 BK244) _).trans (((cell_far (p := ⟨gb244, _, none⟩) (qdk5_1 HO_4 BK244) _).trans (hHeld.2.2.2.2.2.2.1)))))), ((cell_far (p := ⟨gb244, _, none⟩) (qdk5_1 HO_4 BK244) _).trans (((cell_far (p := ⟨gb244, _, none⟩) (qdk5_1 HO_4 BK244) _).trans (((cell_far (p := ⟨gb244, _, none⟩) (qdk5_1 HO_4 BK244) _).trans (hHeld.2.2.2.2.2.2.2.1)))))), ((cell_far (p := ⟨gb244, _, none⟩) (qdk5_1 HO_4 BK244) _).trans (((cell_far (p := ⟨gb244, _, none⟩) (qdk5_1 HO_4 BK244) _).trans (((cell_far (p := ⟨gb244, _, none⟩) (qdk5_1 HO_4 BK244) _).trans (hHeld.2.2.2.2.2.2.2.2.1)))))), ((cell_far (p := ⟨gb244, _, none⟩) (qdk5_1 HO_4 BK244) _).trans (((cell_far (p := ⟨gb244, _, none⟩) (qdk5_1 HO_4 BK244) _).trans (((cell_far (p := ⟨gb244, _, none⟩) (qdk5_1 HO_4 BK244) _).trans (hHeld.2.2.2.2.2.2.2.2.2.1)))))), ((cell_far (p := ⟨gb244, _, none⟩) (qdk5_1 HO_4 BK244) _).trans (((cell_far (p := ⟨gb244, _, none⟩) (qdk5_1 HO_4 BK244) _).trans (((cell_far (p := ⟨gb244, _, none⟩) (qdk5_1 HO_4 BK244) _).trans (hHeld.2.2.2.2.2.2.2.2.2.2.1)))))), ((cell_far (p := ⟨gb244, _, none⟩) (qdk5_1 HO_4 BK244) _).trans (((cell_far (p := ⟨gb244, _, none⟩) (qdk5_1 HO_4 BK244) _).trans (((cell_far (p := ⟨gb244, _, none⟩) (qdk5_1 HO_4 BK244) _).trans (hHeld.2.2.2.2.2.2.2.2.2.2.2.1)))))), ((cell_far (p := ⟨gb244, _, none⟩) (qdk5_1 HO_4 BK244) _).trans (((cell_far (p := ⟨gb244, _, none⟩) (qdk5_1 HO_4 BK244) _).trans (((cell_far (p := ⟨gb244, _, none⟩) (qdk5_1 HO_4 BK244) _).trans (hHeld.2.2.2.2.2.2.2.2.2.2.2.2.1)))))), ((cell_far (p := ⟨gb244, _, none⟩) (qdk5_1 HO_4 BK244) _).trans (((cell_far (p := ⟨gb244, _, none⟩) (qdk5_1 HO_4 BK244) _).trans (((cell_far (p := ⟨gb244, _, none⟩) (qdk5_1 HO_4 BK244) _).trans (hHeld.2.2.2.2.2.2.2.2.2.2.2.2.2.1)))))), ((cell_far (p := ⟨gb244, _, none⟩) (qdk5_1 HO_4 BK244) _).trans (((cell_far (p := ⟨gb244, _, none⟩) (qdk5_1 HO_4 BK244) _).trans (((cell_far (p := ⟨gb244, _, none⟩) (qdk5_1 HO_4 BK244) _).trans (hHeld.2.2.2.2.2.2.2.2.2.2.2.2.2.2))))))⟩ (fun hHeld => ?_)
     clear hK K
     refine pure_ (i := 22) (N := some 9) (bs_ 23 8388607) rfl rfl (any_of HT_.out qdk5_15) (fun _ _ _ h => h) (Or.inl ⟨by rfl, qpy_pdkx5⟩) qpa_pdkx5 ?_
     refine done_ (done_of HT_.out qdk5_15) ?_
     have hnb49 := NB244_208.out
     have hnc49 := NB208_244.out
     have hnb50 := NB244_216.out
     have hnc50 := NB216_244.out
     have hnb51 := NB244_0.out
     have hnc51 := NB0_244.out
     have hcz52_0 : w43.cell? ⟨gb244, 0, none⟩ = some (.slice none 0 0) := (blk_cell BK244.out 0).trans rfl
     have hcz52_1 : w43.cell? ⟨gb244, 1, none⟩ = some (.slice none 0 0) := (blk_cell BK244.out 1).trans rfl
     have hcz52_2 : w43.cell? ⟨gb244, 2, none⟩ = some (.int .i64 0) := (blk_cell BK244.out 2).trans rfl
     have hfz52_0 := blk_frozen BK244.out 0
     have hfz52_1 := blk_frozen BK244.out 1
     have hfz52_2 := blk_frozen BK244.out 2
     have hnb53 := NB216_208.out
     have hnc53 := NB208_216.out
     have hnb54 := NB216_0.out
     have hnc54 := NB0_216.out
     have hcz55_0 : w43.cell? ⟨gb216, 0, none⟩ = some (.slice Ao38 x217000_1.length co38) := (blk_cell BK216.out 0).trans rfl
     have hcz55_1 : w43.cell? ⟨gb216, 1, none⟩ = some (.slice Ao39 x217001_1.length co39) := (blk_cell BK216.out 1).trans rfl
     have hcz55_2 : w43.cell? ⟨gb216, 2, none⟩ = some (.int .i64 x217002_1) := (blk_cell BK216.out 2).trans rfl
     have hfz55_0 := blk_frozen BK216.out 0
     have hfz55_1 := blk_frozen BK216.out 1
     have hfz55_2 := blk_frozen BK216.out 2
     try go_wp2
     go_roundg k1
     case measure => have := HK1.out; omega
     case rel => exact ⟨(wrap64 (x5_1 + 1)), (t236), (t239), (t242), (.slice Ao44 t236.length co44), (.slice Ao46 t239.length co46), (by first | rfl | (simp; done) | (simp [*]; done)), H', ⟨(by have := HK1.out; omega)⟩, ⟨(rdk5_2 HO_4 BK244 BK216)⟩, ⟨(rdk5_2 HO238 BK244 BK216)⟩, ⟨(rdk5_2 HO241 BK244 BK216)⟩, ⟨(rdk5_3 NB208_216 NB208_244 BK208)⟩, ⟨(by (with_reducible repeat (first | refine blk_drewN ?_ _ | refine blk_drew ?_ | refine blk_alloc ?_ _)); refine blk_put (cs := #[.slice Ao44 t236.length co44, .slice Ao46 t239.length co46, .int .i64 x217002_1]) ?_ 2 _ rfl; (with_reducible repeat (first | refine blk_drewN ?_ _ | refine blk_drew ?_ | refine blk_alloc ?_ _)); refine blk_put (cs := #[.slice Ao44 t236.length co44, .slice Ao39 x217001_1.length co39, .int .i64 x217002_1]) ?_ 1 _ rfl; (with_reducible repeat (first | refine blk_drewN ?_ _ | refine blk_drew ?_ | refine blk_alloc ?_ _)); refine blk_put (cs := #[.slice Ao38 x217000_1.length co38, .slice Ao39 x217001_1.length co39, .int .i64 x217002_1]) ?_ 0 _ rfl; (with_reducible repeat (first | refine blk_drewN ?_ _ | refine blk_drew ?_ | refine blk_alloc ?_ _)); refine blk_far ?_ NB216_244.out _; (with_reducible repeat (first | refine blk_drewN ?_ _ | refine blk_drew ?_ | refine blk_alloc ?_ _)); refine blk_far ?_ NB216_244.out _; (with_reducible repeat (first | refine blk_drewN ?_ _ | refine blk_drew ?_ | refine blk_alloc ?_ _)); refine blk_far ?_ NB216_244.out _; (with_reducible repeat (first | refine blk_drewN ?_ _ | refine blk_drew ?_ | refine blk_alloc ?_ _)); exact BK216.out)⟩, ⟨(by repeat (first | (with_reducible first | exact HI0.out | apply IsS94.alloc | apply IsS94.drewN | apply IsS94.drew | apply IsS94.set_1 | refine IsS94.far ?_ NB0_208.out _ | refine IsS94.far ?_ NB0_216.out _ | refine IsS94.far ?_ NB0_244.out _) | exact HI0.out))⟩, ⟨(by repeat (first | (with_reducible first | exact HK.out | apply KeepBut.set_ | apply keep_drewN | apply keep_drew | apply keep_alloc | refine keep_far ?_ GW208.out _ | refine keep_far ?_ GW216.out _ | refine keep_far ?_ GW244.out _) | exact HK.out))⟩, ⟨(by repeat (first | (with_reducible first | exact HB.out | apply below_alloc | apply pw_below_drewN | apply below_drew1 | refine below_set ?_ (IsS94.ge HI0.out) | refine below_set ?_ GE208.out | refine below_set ?_ GE216.out | refine below_set ?_ GE244.out) | exact HB.out))⟩⟩
    rw [if_neg c14] at H
    exact absurd H (by simp)
   rw [if_neg c13] at H
   have c13b0 : decide (x5_1 < (t217.length : Int)) = false := decide_eq_false c13
   clear c13
   simp only [Option.some.injEq, Prod.mk.injEq] at H
   obtain ⟨rfl, rfl, rfl, rfl⟩ := H
   obtain ⟨Ao56, co56, eo56⟩ := Kd.R_slice HO_4.out
   subst eo56
   have hnb57 := NB216_208.out
   have hnc57 := NB208_216.out
   have hnb58 := NB216_0.out
   have hnc58 := NB0_216.out
   have hcz59_0 : wr.cell? ⟨gb216, 0, none⟩ = some (u217000) := (blk_cell BK216.out 0).trans rfl
   have hcz59_1 : wr.cell? ⟨gb216, 1, none⟩ = some (u217001) := (blk_cell BK216.out 1).trans rfl
   have hcz59_2 : wr.cell? ⟨gb216, 2, none⟩ = some (.int .i64 x217002_1) := (blk_cell BK216.out 2).trans rfl
   have hfz59_0 := blk_frozen BK216.out 0
   have hfz59_1 := blk_frozen BK216.out 1
   have hfz59_2 := blk_frozen BK216.out 2
   obtain ⟨Ao60, co60, eo60⟩ := Kd.R_slice HO_217000.out
   subst eo60
   have hnb61 := NB208_0.out
   have hnc61 := NB0_208.out
   have hcz62_0 : wr.cell? ⟨gb208, 0, none⟩ = some (.slice none 0 0) := (blk_cell BK208.out 0).trans rfl
   have hcz62_1 : wr.cell? ⟨gb208, 1, none⟩ = some (.slice none 0 0) := (blk_cell BK208.out 1).trans rfl
   have hcz62_2 : wr.cell? ⟨gb208, 2, none⟩ = some (.int .i64 0) := (blk_cell BK208.out 2).trans rfl
   have hfz62_0 := blk_frozen BK208.out 0
   have hfz62_1 := blk_frozen BK208.out 1
   have hfz62_2 := blk_frozen BK208.out 2
   obtain ⟨Ao63, co63, eo63⟩ := Kd.R_slice HO_217001.out
   subst eo63
   go_wp2
   refine bodyPost_ret (results_cell_row rfl _ _ gb208 25 #[.slice Ao60 x217000_1.length co60, .slice Ao63 x217001_1.length co63, .int .i64 x217002_1] (0, 0) _ rfl (by (with_reducible repeat (first | refine blk_drewN ?_ _ | refine blk_drew ?_ | refine blk_alloc ?_ _)); refine blk_put (cs := #[.slice Ao60 x217000_1.length co60, .slice Ao63 x217001_1.length co63, .int .i64 0]) ?_ 2 _ rfl; (with_reducible repeat (first | refine blk_drewN ?_ _ | refine blk_drew ?_ | refine blk_alloc ?_ _)); refine blk_put (cs := #[.slice Ao60 x217000_1.length co60, .slice none 0 0, .int .i64 0]) ?_ 1 _ rfl; (with_reducible repeat (first | refine blk_drewN ?_ _ | refine blk_drew ?_ | refine blk_alloc ?_ _)); refine blk_put (cs := #[.slice none 0 0, .slice none 0 0, .int .i64 0]) ?_ 0 _ rfl; (with_reducible repeat (first | refine blk_drewN ?_ _ | refine blk_drew ?_ | refine blk_alloc ?_ _)); exact BK208.out) Try.underlying25 rfl qdk5_15) rfl ?_
   exact ⟨_, _, (by first | rfl | (simp [errW_none, errW_some] <;> rfl) | (simp [*, errW_none, errW_some] <;> rfl)), (rdk5_4 HO_217000 BK208), (rdk5_4 HO_217001 BK208), (by repeat (first | (with_reducible first | exact HI0.out | apply IsS94.alloc | apply IsS94.drewN | apply IsS94.drew | apply IsS94.set_1 | refine IsS94.far ?_ NB0_208.out _ | refine IsS94.far ?_ NB0_216.out _) | exact HI0.out)), (by repeat (first | (with_reducible first | exact HB.out | apply below_alloc | apply pw_below_drewN | apply below_drew1 | refine below_set ?_ (IsS94.ge HI0.out) | refine below_set ?_ GE208.out | refine below_set ?_ GE216.out) | exact HB.out)), (by repeat (first | (with_reducible first | exact HK.out | apply KeepBut.set_ | apply keep_drewN | apply keep_drew | apply keep_alloc | refine keep_far ?_ GW208.out _ | refine keep_far ?_ GW216.out _) | exact HK.out))⟩
end Go.Proofs.Ytohilfkdfcihgaa.PDi
