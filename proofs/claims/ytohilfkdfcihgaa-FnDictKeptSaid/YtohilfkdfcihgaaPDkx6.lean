/- Go functions as Lean functions, and that each Go function comes to just that; printed by a program of this session (gprint.py over the kit's print.py). No condition. -/
import Derived.Test.YtohilfkdfcihgaaPDky0
import Derived.Test.YtohilfkdfcihgaaPDkx1
import Derived.Test.YtohilfkdfcihgaaPDkx5
import Derived.Test.YtohilfkdfcihgaaPDix3
namespace Go.Proofs.Ytohilfkdfcihgaa.PDi
open Go.RowKit Go.Proofs.YtohilfkdfcihgaaW.PrintWords Go.Proofs.YtohilfkdfcihgaaW.PrintLast Go.Proofs.YtohilfkdfcihgaaW.PrintMore
attribute [local go_sem] max2_int min2_int max_two min_two max_three min_three max_four min_four   -- for this text's walks alone
set_option linter.unusedVariables false
set_option linter.unusedSimpArgs false
theorem qpa_pdkx6 {P : Prop} (h : P := by simp only [Act.put, List.setIfInBounds_toArray, List.set_cons_zero, List.set_cons_succ, i64_w, i32_w]; rfl) : P := h
theorem qnl_pdkx6 {w : World} {g n : Nat} {cs : Array Value} {t : TypeId} {fr : Nat × Nat} {Q : Prop} (y : Q) (hg : n = w.heap.size) (h : Q → w.heap[g]? = some (.cells cs t fr) := by intro y_; (with_reducible repeat (first | refine blk_drewN ?_ _ | refine blk_drew ?_ | refine blk_alloc ?_ _)); exact y_.out) : g ≠ n := by
  rw [hg]; exact Nat.ne_of_lt (blk_lt (h y))
theorem qng_pdkx6 {w : World} {g n : Nat} {cs : Array Value} {t : TypeId} {fr : Nat × Nat} {Q : Prop} (y : Q) (hg : n = w.heap.size) (h : Q → w.heap[g]? = some (.cells cs t fr) := by intro y_; (with_reducible repeat (first | refine blk_drewN ?_ _ | refine blk_drew ?_ | refine blk_alloc ?_ _)); exact y_.out) : n ≠ g := by
  rw [hg]; exact Nat.ne_of_gt (blk_lt (h y))
theorem qpy_pdkx6 {P : Prop} (h : P := by intro w'; go_simp; with_reducible rfl) : P := h
theorem qpt7_pdkx6 {P : Prop} (h : P := by rintro w' ⟨s0, s1, s2, s3, s4, s5, s6⟩; go_simp; with_reducible rfl) : P := h
theorem qpt3_pdkx6 {P : Prop} (h : P := by rintro w' ⟨s0, s1, s2⟩; go_simp; with_reducible rfl) : P := h
theorem rdk6_1 {P Q0 Q1 Q2 Q3 : Prop} (y0 : Q0) (y1 : Q1) (y2 : Q2) (y3 : Q3) (h : Q0 → Q1 → Q2 → Q3 → P := by intro y0_ y1_ y2_ y3_; repeat (first | (with_reducible first | exact y0_.out | apply below_alloc | apply pw_below_drewN | apply below_drew1 | refine below_set ?_ (IsS94.ge y1_.out) | refine below_set ?_ y2_.out | refine below_set ?_ y3_.out) | exact y0_.out)) : P := h y0 y1 y2 y3
theorem rdk6_2 {P Q0 Q1 Q2 : Prop} (y0 : Q0) (y1 : Q1) (y2 : Q2) (h : Q0 → Q1 → Q2 → P := by intro y0_ y1_ y2_; repeat (first | (with_reducible first | exact y0_.out | apply IsS94.alloc | apply IsS94.drewN | apply IsS94.drew | apply IsS94.set_1 | refine IsS94.far ?_ y1_.out _ | refine IsS94.far ?_ y2_.out _) | exact y0_.out)) : P := h y0 y1 y2
theorem rdk6_3 {P Q0 Q1 Q2 : Prop} (y0 : Q0) (y1 : Q1) (y2 : Q2) (h : Q0 → Q1 → Q2 → P := by intro y0_ y1_ y2_; repeat (first | (with_reducible first | exact y0_.out | apply KeepBut.set_ | apply keep_drewN | apply keep_drew | apply keep_alloc | refine keep_far ?_ y1_.out _ | refine keep_far ?_ y2_.out _) | exact y0_.out)) : P := h y0 y1 y2
theorem rdk6_4 {P Q0 : Prop} (y0 : Q0) (h : Q0 → P := by intro y0_; (with_reducible repeat (first | refine blk_drewN ?_ _ | refine blk_drew ?_ | refine blk_alloc ?_ _)); exact y0_.out) : P := h y0
theorem rdk6_5 {P Q0 : Prop} (y0 : Q0) (h : Q0 → P := by intro y0_; (with_reducible repeat (first | apply Kd.R_alloc | apply Kd.R_drewN | apply Kd.R_drew)); exact y0_.out) : P := h y0
theorem rdk6_6 {P : Prop} (h : P := by first | rfl | (simp [errW_none, errW_some] <;> rfl) | (simp [*, errW_none, errW_some] <;> rfl)) : P := h
theorem rdk6_7 {P Q0 Q1 Q2 : Prop} (y0 : Q0) (y1 : Q1) (y2 : Q2) (h : Q0 → Q1 → Q2 → P := by intro y0_ y1_ y2_; (with_reducible repeat (first | apply Kd.R_alloc | apply Kd.R_drewN | apply Kd.R_drew)); exact Kd.R_mono (Kd.R_far (p := ⟨gb245, 2, none⟩) (Kd.R_far (p := ⟨gb245, 1, none⟩) (Kd.R_far (p := ⟨gb245, 0, none⟩) (Kd.R_far (p := ⟨gb254, 2, none⟩) (Kd.R_types (Kd.R_types y0_.out y1_.out qdk6_16) y2_.out qdk6_16) (fun _ hk => hk.1.2) (.int .i64 (wrap64 (t252 + 1)))) (fun _ hk => hk.2) (.slice Ao43 t246.length co43)) (fun _ hk => hk.2) (.slice Ao47 t249.length co47)) (fun _ hk => hk.2) (.int .i64 (wrap64 (t252 + 1)))) (fun _ hk => trivial)) : P := h y0 y1 y2
theorem rdk6_8 {P Q0 Q1 Q2 : Prop} (y0 : Q0) (y1 : Q1) (y2 : Q2) (h : Q0 → Q1 → Q2 → P := by intro y0_ y1_ y2_; (with_reducible repeat (first | apply Kd.R_alloc | apply Kd.R_drewN | apply Kd.R_drew)); exact Kd.R_mono (Kd.R_far (p := ⟨gb245, 2, none⟩) (Kd.R_far (p := ⟨gb245, 1, none⟩) (Kd.R_far (p := ⟨gb245, 0, none⟩) (Kd.R_far (p := ⟨gb254, 0, none⟩) (Kd.R_types (Kd.R_types y0_.out y1_.out qdk6_16) y2_.out qdk6_16) (fun _ hk => hk.1.2) (.slice Ao35 t264.length co35)) (fun _ hk => hk.2) (.slice Ao35 t264.length co35)) (fun _ hk => hk.2) (.slice Ao33 x255001_1.length co33)) (fun _ hk => hk.2) (.int .i64 x255002_1)) (fun _ hk => trivial)) : P := h y0 y1 y2
theorem rdk6_9 {P Q0 Q1 Q2 : Prop} (y0 : Q0) (y1 : Q1) (y2 : Q2) (h : Q0 → Q1 → Q2 → P := by intro y0_ y1_ y2_; (with_reducible repeat (first | apply Kd.R_alloc | apply Kd.R_drewN | apply Kd.R_drew)); exact Kd.R_mono (Kd.R_far (p := ⟨gb245, 2, none⟩) (Kd.R_far (p := ⟨gb245, 1, none⟩) (Kd.R_far (p := ⟨gb245, 0, none⟩) (Kd.R_far (p := ⟨gb254, 0, none⟩) (Kd.R_types (Kd.R_types y0_.out y1_.out qdk6_16) y2_.out qdk6_16) (fun _ hk => hk.1.2) (.slice Ao125 y281.length co125)) (fun _ hk => hk.2) (.slice Ao125 y281.length co125)) (fun _ hk => hk.2) (.slice Ao61 t249.length co61)) (fun _ hk => hk.2) (.int .i64 t252)) (fun _ hk => trivial)) : P := h y0 y1 y2
theorem rdk6_10 {P Q0 Q1 Q2 : Prop} (y0 : Q0) (y1 : Q1) (y2 : Q2) (h : Q0 → Q1 → Q2 → P := by intro y0_ y1_ y2_; (with_reducible repeat (first | apply Kd.R_alloc | apply Kd.R_drewN | apply Kd.R_drew)); exact Kd.R_mono (Kd.R_far (p := ⟨gb245, 2, none⟩) (Kd.R_far (p := ⟨gb245, 1, none⟩) (Kd.R_far (p := ⟨gb245, 0, none⟩) (Kd.R_far (p := ⟨gb254, 0, none⟩) (Kd.R_types (Kd.R_types y0_.out y1_.out qdk6_16) y2_.out qdk6_16) (fun _ hk => hk.1.2) (.slice Ao135 y284.length co135)) (fun _ hk => hk.2) (.slice Ao135 y284.length co135)) (fun _ hk => hk.2) (.slice Ao61 t249.length co61)) (fun _ hk => hk.2) (.int .i64 t252)) (fun _ hk => trivial)) : P := h y0 y1 y2
theorem rdk6_11 {P Q0 Q1 : Prop} (y0 : Q0) (y1 : Q1) (h : Q0 → Q1 → P := by intro y0_ y1_; (with_reducible repeat (first | apply Kd.R_alloc | apply Kd.R_drewN | apply Kd.R_drew)); exact Kd.R_mono (Kd.R_far (p := ⟨gb245, 2, none⟩) (Kd.R_far (p := ⟨gb245, 1, none⟩) (Kd.R_far (p := ⟨gb245, 0, none⟩) (Kd.R_types y0_.out y1_.out qdk6_16) (fun _ hk => hk.2) (.slice (some ⟨go108, 0, none⟩) t246.length co57)) (fun _ hk => hk.2) (.slice Ao61 t249.length co61)) (fun _ hk => hk.2) (.int .i64 t252)) (fun _ hk => trivial)) : P := h y0 y1
theorem rdk6_12 {P Q0 Q1 : Prop} (y0 : Q0) (y1 : Q1) (h : Q0 → Q1 → P := by intro y0_ y1_; (with_reducible repeat (first | apply Kd.R_alloc | apply Kd.R_drewN | apply Kd.R_drew)); exact Kd.R_mono (Kd.R_far (p := ⟨gb245, 2, none⟩) (Kd.R_far (p := ⟨gb245, 1, none⟩) (Kd.R_far (p := ⟨gb245, 0, none⟩) (Kd.R_types y0_.out y1_.out qdk6_16) (fun _ hk => hk.2) (.slice Ao57 t246.length co57)) (fun _ hk => hk.2) (.slice (some ⟨go73, 0, none⟩) t249.length co61)) (fun _ hk => hk.2) (.int .i64 t252)) (fun _ hk => trivial)) : P := h y0 y1
theorem rdk6_13 {P Q0 Q1 : Prop} (y0 : Q0) (y1 : Q1) (h : Q0 → Q1 → P := by intro y0_ y1_; (with_reducible repeat (first | apply Kd.R_alloc | apply Kd.R_drewN | apply Kd.R_drew)); exact Kd.R_mono (Kd.R_far (p := ⟨gb245, 2, none⟩) (Kd.R_far (p := ⟨gb245, 1, none⟩) (Kd.R_far (p := ⟨gb245, 0, none⟩) (Kd.R_types y0_.out y1_.out qdk6_16) (fun _ hk => hk.2) (.slice Ao57 t246.length co57)) (fun _ hk => hk.2) (.slice (some ⟨go93, 0, none⟩) t249.length co61)) (fun _ hk => hk.2) (.int .i64 t252)) (fun _ hk => trivial)) : P := h y0 y1
theorem rdk6_14 {P Q0 Q1 Q2 Q3 Q4 : Prop} (y0 : Q0) (y1 : Q1) (y2 : Q2) (y3 : Q3) (y4 : Q4) (h : Q0 → Q1 → Q2 → Q3 → Q4 → P := by intro y0_ y1_ y2_ y3_ y4_; repeat (first | (with_reducible first | exact y0_.out | apply below_alloc | apply pw_below_drewN | apply below_drew1 | refine below_set ?_ (Nat.le_trans HL.out y1_.out) | refine below_set ?_ (IsS94.ge y2_.out) | refine below_set ?_ y3_.out | refine below_set ?_ y4_.out) | exact y0_.out)) : P := h y0 y1 y2 y3 y4
theorem rdk6_15 {P Q0 Q1 : Prop} (y0 : Q0) (y1 : Q1) (h : Q0 → Q1 → P := by intro y0_ y1_; (with_reducible repeat (first | apply Kd.R_alloc | apply Kd.R_drewN | apply Kd.R_drew)); exact Kd.R_mono (Kd.R_far (p := ⟨gb245, 2, none⟩) (Kd.R_far (p := ⟨gb245, 1, none⟩) (Kd.R_far (p := ⟨gb245, 0, none⟩) (Kd.R_types y0_.out y1_.out qdk6_16) (fun _ hk => hk.2) (.slice Ao145 t246.length co145)) (fun _ hk => hk.2) (.slice Ao149 t249.length co149)) (fun _ hk => hk.2) (.int .i64 t252)) (fun _ hk => trivial)) : P := h y0 y1
theorem rdk6_16 {P Q0 Q1 Q2 Q3 : Prop} (y0 : Q0) (y1 : Q1) (y2 : Q2) (y3 : Q3) (h : Q0 → Q1 → Q2 → Q3 → P := by intro y0_ y1_ y2_ y3_; repeat (first | (with_reducible first | exact y0_.out | apply KeepBut.set_ | apply keep_drewN | apply keep_drew | apply keep_alloc | refine keep_far ?_ y1_.out _ | refine keep_far ?_ y2_.out _ | refine keep_far ?_ y3_.out _) | exact y0_.out)) : P := h y0 y1 y2 y3
theorem rdk6_17 {P Q0 Q1 : Prop} (y0 : Q0) (y1 : Q1) (h : Q0 → Q1 → P := by intro y0_ y1_; (with_reducible repeat (first | apply Kd.R_alloc | apply Kd.R_drewN | apply Kd.R_drew)); exact Kd.R_mono (Kd.R_far (p := ⟨gb254, 2, none⟩) (Kd.R_far (p := ⟨gb254, 1, none⟩) (Kd.R_types y0_.out y1_.out qdk6_16) (fun _ hk => hk.2) (.slice Ao27 y261.length co27)) (fun _ hk => hk.2) (.int .i64 (wrap64 (x255002_1 + 1)))) (fun _ hk => trivial)) : P := h y0 y1
theorem rdk6_18 {P Q0 : Prop} (y0 : Q0) (h : Q0 → P := by intro y0_; (with_reducible repeat (first | refine blk_drewN ?_ _ | refine blk_drew ?_ | refine blk_alloc ?_ _)); refine blk_far ?_ (qdk6_24 HO_255001 BK245) _; (with_reducible repeat (first | refine blk_drewN ?_ _ | refine blk_drew ?_ | refine blk_alloc ?_ _)); exact y0_.out) : P := h y0
theorem rdk6_19 {P Q0 : Prop} (y0 : Q0) (h : Q0 → P := by intro y0_; (with_reducible repeat (first | refine blk_drewN ?_ _ | refine blk_drew ?_ | refine blk_alloc ?_ _)); refine blk_far ?_ (qdk6_24 HO_255001 BK254) _; (with_reducible repeat (first | refine blk_drewN ?_ _ | refine blk_drew ?_ | refine blk_alloc ?_ _)); exact y0_.out) : P := h y0
theorem qdk6_1 {P Q0 : Prop} (y0 : Q0) (h : Q0 → P := by intro y0_; (with_reducible repeat (first | refine blk_drewN ?_ _ | refine blk_drew ?_ | refine blk_alloc ?_ _)); exact y0_.out) : P := h y0
theorem qdk6_2 {P Q0 Q1 Q2 : Prop} (y0 : Q0) (y1 : Q1) (y2 : Q2) (h : Q0 → Q1 → Q2 → P := by intro y0_ y1_ y2_; repeat (first | (with_reducible first | exact y0_.out | apply KeepBut.set_ | apply keep_drewN | apply keep_drew | apply keep_alloc | refine keep_far ?_ y1_.out _ | refine keep_far ?_ y2_.out _) | exact y0_.out)) : P := h y0 y1 y2
theorem qdk6_3 {P Q0 Q1 : Prop} (y0 : Q0) (y1 : Q1) (h : Q0 → Q1 → P := by intro y0_ y1_; repeat (first | (with_reducible first | exact y0_.out | apply KeepBut.set_ | apply keep_drewN | apply keep_drew | apply keep_alloc | refine keep_far ?_ y1_.out _) | exact y0_.out)) : P := h y0 y1
theorem qdk6_4 {P Q0 : Prop} (y0 : Q0) (h : Q0 → P := by intro y0_; (with_reducible repeat (first | apply Kd.R_alloc | apply Kd.R_drewN | apply Kd.R_drew)); exact y0_.out) : P := h y0
theorem qdk6_5 {P Q0 Q1 Q2 : Prop} (y0 : Q0) (y1 : Q1) (y2 : Q2) (h : Q0 → Q1 → Q2 → P := by intro y0_ y1_ y2_; repeat (first | (with_reducible first | exact y0_.out | apply below_alloc | apply pw_below_drewN | apply below_drew1 | refine below_set ?_ (IsS94.ge HI0.out) | refine below_set ?_ y1_.out | refine below_set ?_ y2_.out) | exact y0_.out)) : P := h y0 y1 y2
theorem qdk6_6 {P Q0 Q1 : Prop} (y0 : Q0) (y1 : Q1) (h : Q0 → Q1 → P := by intro y0_ y1_; repeat (first | (with_reducible first | exact HI0.out | apply IsS94.alloc | apply IsS94.drewN | apply IsS94.drew | apply IsS94.set_1 | refine IsS94.far ?_ y0_.out _ | refine IsS94.far ?_ y1_.out _) | exact HI0.out)) : P := h y0 y1
theorem qdk6_7 {P : Prop} (h : P := by (try simp only [List.map_toArray, List.map_cons, List.map_nil]); first | done | rfl | (simp only [List.length_drop, List.length_take]; rfl)) : P := h
theorem qdk6_8 {P Q0 : Prop} (y0 : Q0) (h : Q0 → P := by intro y0_; repeat (first | (with_reducible first | exact y0_.out | apply KeepBut.set_ | apply keep_drewN | apply keep_drew | apply keep_alloc) | exact y0_.out)) : P := h y0
theorem qdk6_9 {P Q0 Q1 : Prop} (y0 : Q0) (y1 : Q1) (h : Q0 → Q1 → P := by intro y0_ y1_; (with_reducible repeat (first | refine blk_drewN ?_ _ | refine blk_drew ?_ | refine blk_alloc ?_ _)); refine blk_far ?_ y0_.out _; (with_reducible repeat (first | refine blk_drewN ?_ _ | refine blk_drew ?_ | refine blk_alloc ?_ _)); refine blk_far ?_ y0_.out _; (with_reducible repeat (first | refine blk_drewN ?_ _ | refine blk_drew ?_ | refine blk_alloc ?_ _)); refine blk_far ?_ y0_.out _; (with_reducible repeat (first | refine blk_drewN ?_ _ | refine blk_drew ?_ | refine blk_alloc ?_ _)); exact y1_.out) : P := h y0 y1
theorem qdk6_10 {P Q0 Q1 : Prop} (y0 : Q0) (y1 : Q1) (h : Q0 → Q1 → P := by intro y0_ y1_; repeat (first | (with_reducible first | exact y0_.out | apply below_alloc | apply pw_below_drewN | apply below_drew1 | refine below_set ?_ (IsS94.ge HI0.out) | refine below_set ?_ y1_.out) | exact y0_.out)) : P := h y0 y1
theorem qdk6_11 {P Q0 : Prop} (y0 : Q0) (h : Q0 → P := by intro y0_; repeat (first | (with_reducible first | exact HI0.out | apply IsS94.alloc | apply IsS94.drewN | apply IsS94.drew | apply IsS94.set_1 | refine IsS94.far ?_ y0_.out _) | exact HI0.out)) : P := h y0
theorem qdk6_16 {P : Prop} (h : P := by decide) : P := h
theorem qdk6_13 {P : Prop} (h : P := by kernel_rfl) : P := h
theorem qdk6_14 {P : Prop} (h : P := by first | (with_reducible assumption) | assumption) : P := h
theorem qdk6_15 {P Q0 : Prop} (y0 : Q0) (h : Q0 → P := by intro y0_; (with_reducible repeat (first | refine blk_drewN ?_ _ | refine blk_drew ?_ | refine blk_alloc ?_ _)); refine blk_put (cs := #[.slice Ao145 t246.length co145, .slice Ao149 t249.length co149, .int .i64 0]) ?_ 2 _ rfl; (with_reducible repeat (first | refine blk_drewN ?_ _ | refine blk_drew ?_ | refine blk_alloc ?_ _)); refine blk_put (cs := #[.slice Ao145 t246.length co145, .slice none 0 0, .int .i64 0]) ?_ 1 _ rfl; (with_reducible repeat (first | refine blk_drewN ?_ _ | refine blk_drew ?_ | refine blk_alloc ?_ _)); refine blk_put (cs := #[.slice none 0 0, .slice none 0 0, .int .i64 0]) ?_ 0 _ rfl; (with_reducible repeat (first | refine blk_drewN ?_ _ | refine blk_drew ?_ | refine blk_alloc ?_ _)); exact y0_.out) : P := h y0
theorem qdk6_17 {P Q0 : Prop} (y0 : Q0) (h : Q0 → P := by intro y0_; repeat (first | (with_reducible first | exact y0_.out | apply below_alloc | apply pw_below_drewN | apply below_drew1 | refine below_set ?_ (IsS94.ge HI0.out)) | exact y0_.out)) : P := h y0
theorem qdk6_18 {P : Prop} (h : P := by repeat (first | (with_reducible first | exact HI0.out | apply IsS94.alloc | apply IsS94.drewN | apply IsS94.drew | apply IsS94.set_1) | exact HI0.out)) : P := h
theorem qdk6_19 {P Q0 Q1 : Prop} (y0 : Q0) (y1 : Q1) (h : Q0 → Q1 → P := by intro y0_ y1_; (with_reducible repeat (first | apply Kd.R_alloc | apply Kd.R_drewN | apply Kd.R_drew)); exact (Kd.R_mono (Kd.R_far (p := ⟨gb254, 2, none⟩) (Kd.R_far (p := ⟨gb254, 1, none⟩) (Kd.R_far (p := ⟨gb254, 0, none⟩) (Kd.R_types y0_.out y1_.out qdk6_16) (fun _ hk => hk.2) (.slice Ao145 t246.length co145)) (fun _ hk => hk.2) (.slice Ao149 t249.length co149)) (fun _ hk => hk.2) (.int .i64 t252)) (fun _ h_ => h_.1))) : P := h y0 y1
theorem qdk6_20 {P Q0 Q1 : Prop} (y0 : Q0) (y1 : Q1) (h : Q0 → Q1 → P := by intro y0_ y1_; (with_reducible repeat (first | apply Kd.R_alloc | apply Kd.R_drewN | apply Kd.R_drew)); exact (Kd.R_mono (Kd.R_far (p := ⟨gb254, 2, none⟩) (Kd.R_far (p := ⟨gb254, 1, none⟩) (Kd.R_far (p := ⟨gb254, 0, none⟩) (Kd.R_types y0_.out y1_.out qdk6_16) (fun _ hk => hk.2) (.slice Ao11 t246.length co11)) (fun _ hk => hk.2) (.slice Ao15 t249.length co15)) (fun _ hk => hk.2) (.int .i64 t252)) (fun _ h_ => h_.1))) : P := h y0 y1
theorem qdk6_21 {P Q0 Q1 : Prop} (y0 : Q0) (y1 : Q1) (h : Q0 → Q1 → P := by intro y0_ y1_; (with_reducible repeat (first | apply Kd.R_alloc | apply Kd.R_drewN | apply Kd.R_drew)); exact (Kd.R_mono (Kd.R_far (p := ⟨gb254, 2, none⟩) (Kd.R_far (p := ⟨gb254, 1, none⟩) (Kd.R_far (p := ⟨gb254, 0, none⟩) (Kd.R_types y0_.out y1_.out qdk6_16) (fun _ hk => hk.2) (.slice Ao43 t246.length co43)) (fun _ hk => hk.2) (.slice Ao47 t249.length co47)) (fun _ hk => hk.2) (.int .i64 t252)) (fun _ h_ => h_.1))) : P := h y0 y1
theorem qdk6_22 {P Q0 Q1 : Prop} (y0 : Q0) (y1 : Q1) (h : Q0 → Q1 → P := by intro y0_ y1_; (with_reducible repeat (first | apply Kd.R_alloc | apply Kd.R_drewN | apply Kd.R_drew)); exact (Kd.R_mono (Kd.R_far (p := ⟨gb254, 2, none⟩) (Kd.R_far (p := ⟨gb254, 1, none⟩) (Kd.R_far (p := ⟨gb254, 0, none⟩) (Kd.R_types y0_.out y1_.out qdk6_16) (fun _ hk => hk.2) (.slice Ao57 t246.length co57)) (fun _ hk => hk.2) (.slice Ao61 t249.length co61)) (fun _ hk => hk.2) (.int .i64 t252)) (fun _ h_ => h_.1))) : P := h y0 y1
theorem qdk6_23 {P : Prop} (h : P := by first | (go_simp; done) | (go_simp; rfl)) : P := h
theorem qdk6_24 {P Q0 Q1 : Prop} (y0 : Q0) (y1 : Q1) (h : Q0 → Q1 → P := by intro y0_ y1_; have h_ := Kd.R_ne y0_.out y1_.out qdk6_16; intro e_; exact h_ (by rw [e_]; rfl)) : P := h y0 y1
theorem qdk6_25 {P : Prop} (h : P := by first | rfl | (simp; done) | (simp [*]; done)) : P := h
mutual
def spec_l7DrawAny.l0 : Nat → Int → Int → List Int → Int → List Int → List (S62) → Int → Option (List Int × (List (S62)) × Int × Int)
 | 0, _, _, _, _, _, _, _ => none
 | k + 1, x5, x6, x1000, x1001, x255000, x255001, x255002 => if x6 < x5 then (if x255001.length < 4398046511104 then (spec_l7DrawAny.l0 k x5 (wrap64 (x6 + 1)) x1000 x1001 x255000 (x255001 ++ [(⟨IntKind.u64.wrap (wrap64 (x6 * 7)), wrap64 (1000 + x6), 1, false⟩ : S62)]) (wrap64 (x255002 + 1))) else (none)) else ((spec_l7Table.f k x255001 (x255000.length : Int)).bind fun t264 => (some (t264, x255001, x255002, x1001)))
def spec_l7DrawAny.j1 : Nat → Int → Bool → List Int → Int → List Int → List (S62) → Int → Option (List Int × (List (S62)) × Int × Int)
 | 0, _, _, _, _, _, _, _ => none
 | k + 1, x4, x69, x1000, x1001, x255000, x255001, x255002 => if x69 = true then ((spec_l1Rd_below.f x1000 x1001 (x255001.length : Int)).bind fun bt267 => ((spec_l1Rd_below.f x1000 bt267.2 30).bind fun bt269 => (if 0 ≤ bt267.1 then (if bt267.1 < (x255001.length : Int) then (some (x255000, (x255001.set (bt267.1 : Int).toNat (⟨(rd_T62 x255001 bt267.1).f0, bt269.1, (rd_T62 x255001 bt267.1).f2, (rd_T62 x255001 bt267.1).f3⟩ : S62)), x255002, bt269.2)) else (none)) else (none)))) else (if x4 = 2 then (spec_l7DrawAny.j2 k x4 (decide ((x255001.length : Int) > 0)) x1000 x1001 x255000 x255001 x255002) else (spec_l7DrawAny.j2 k x4 false x1000 x1001 x255000 x255001 x255002))
def spec_l7DrawAny.j2 : Nat → Int → Bool → List Int → Int → List Int → List (S62) → Int → Option (List Int × (List (S62)) × Int × Int)
 | 0, _, _, _, _, _, _, _ => none
 | k + 1, x4, x88, x1000, x1001, x255000, x255001, x255002 => if x88 = true then ((spec_l1Rd_below.f x1000 x1001 (x255001.length : Int)).bind fun bt272 => (if 0 ≤ bt272.1 then (if bt272.1 < (x255001.length : Int) then (some (x255000, (x255001.set (bt272.1 : Int).toNat (⟨Go.bits .xor .u64 ((rd_T62 x255001 bt272.1).f0) 1, (rd_T62 x255001 bt272.1).f1, (rd_T62 x255001 bt272.1).f2, (rd_T62 x255001 bt272.1).f3⟩ : S62)), x255002, bt272.2)) else (none)) else (none))) else (if x4 = 3 then ((spec_l1Rd_below.f x1000 x1001 (x255000.length : Int)).bind fun bt276 => ((spec_l1Rd_below.f x1000 bt276.2 5).bind fun bt278 => (if 0 ≤ bt276.1 then (if bt276.1 < (x255000.length : Int) then (some ((x255000.set (bt276.1 : Int).toNat (wrap64 (bt278.1 - 1))), x255001, x255002, bt278.2)) else (none)) else (none)))) else (if x4 = 4 then (if x255000.length < 17592186044416 then (some ((x255000 ++ [(-1)]), x255001, x255002, x1001)) else (none)) else (if x4 = 5 then (if x255000.length + x255000.length < 17592186044416 then (some ((x255000 ++ x255000), x255001, x255002, x1001)) else (none)) else (some (([] : List Int), ([] : List (S62)), 0, x1001)))))
end
def spec_l7DrawAny.f (k : Nat) (s0_0 : List Int) (s0_1 : Int) : Option (List Int × (List (S62)) × Int × Int) := (spec_l7Draw.f k s0_0 s0_1).bind fun bt246 => ((spec_l1Rd_once.f s0_0 bt246.2.2.2 4).bind fun bt255 => (if bt255.1 = true then ((spec_l1Rd_below.f s0_0 bt255.2 8).bind fun bt257 => (if bt257.1 = 7 then ((spec_l1Rd_below.f s0_0 bt257.2 2).bind fun bt259 => (spec_l7DrawAny.l0 k (wrap64 ((wrap64 (Int.tdiv (wrap64 ((bt246.1.length : Int) * 2)) 3)) + bt259.1)) (bt246.2.1.length : Int) s0_0 bt259.2 bt246.1 bt246.2.1 bt246.2.2.1)) else (if bt257.1 = 0 then (some (bt246.1, bt246.2.1, wrap64 (bt246.2.2.1 + 1), bt257.2)) else (if bt257.1 = 1 then (spec_l7DrawAny.j1 k bt257.1 (decide ((bt246.2.1.length : Int) > 0)) s0_0 bt257.2 bt246.1 bt246.2.1 bt246.2.2.1) else (spec_l7DrawAny.j1 k bt257.1 false s0_0 bt257.2 bt246.1 bt246.2.1 bt246.2.2.1))))) else (some (bt246.1, bt246.2.1, bt246.2.2.1, bt255.2))))
def spec_l7DrawAny.T6 : Bool × List (List Nat × List Nat) := (true, [([], []), ([0], [0]), ([1], [1]), ([2], [2]), ([3], [3]), ([], []), ([5], [5]), ([4, 6], [4, 6]), ([7, 6, 0, 1, 2, 3, 4, 5, 6, 7], [7])])
def spec_l7DrawAny.B6 : List Nat := [0, 1, 3, 7, 15, 0, 32, 127, 255]
theorem spec_l7DrawAny.tab6 : rtab .any (opsOf Try.f75 6) = spec_l7DrawAny.T6 := by kernel_rfl
theorem spec_l7DrawAny.bits6 : waitsOk spec_l7DrawAny.T6.2 spec_l7DrawAny.B6 = true := by kernel_rfl
def spec_l7DrawAny.T17 : Bool × List (List Nat × List Nat) := (true, [([], []), ([0], [0]), ([], []), ([], []), ([3], [3]), ([4], [4]), ([2, 5], [2, 5]), ([], []), ([7, 6], [7]), ([1, 6, 0, 1, 2, 3, 4, 5, 6, 7, 8], [1, 6]), ([9, 0, 1, 2, 3, 4, 5, 6, 7, 8], [9]), ([10, 8, 8, 0, 1, 2, 3, 4, 5, 6, 7, 8], [8, 10])])
def spec_l7DrawAny.B17 : List Nat := [0, 1, 0, 0, 8, 24, 60, 0, 252, 511, 1023, 2047]
theorem spec_l7DrawAny.tab17 : rtab .any (opsOf Try.f75 17) = spec_l7DrawAny.T17 := by kernel_rfl
theorem spec_l7DrawAny.bits17 : waitsOk spec_l7DrawAny.T17.2 spec_l7DrawAny.B17 = true := by kernel_rfl
def spec_l7DrawAny.T19 : Bool × List (List Nat × List Nat) := (true, [([], []), ([0], [0]), ([], []), ([], []), ([3], [3]), ([4], [4]), ([2, 5], [2, 5]), ([1, 6], [1, 6]), ([7], [7]), ([8], [8]), ([9], [9]), ([1, 6, 0, 1, 2, 3, 4, 5, 6, 7, 8, 9, 10], [1, 6]), ([11, 0, 1, 2, 3, 4, 5, 6, 7, 8, 9, 10], [11]), ([12, 10, 6, 0, 1, 2, 3, 4, 5, 6, 7, 8, 9, 10], [10, 12])])
def spec_l7DrawAny.B19 : List Nat := [0, 1, 0, 0, 8, 24, 60, 127, 255, 511, 1023, 2047, 4095, 8191]
theorem spec_l7DrawAny.tab19 : rtab .any (opsOf Try.f75 19) = spec_l7DrawAny.T19 := by kernel_rfl
theorem spec_l7DrawAny.bits19 : waitsOk spec_l7DrawAny.T19.2 spec_l7DrawAny.B19 = true := by kernel_rfl
def spec_l7DrawAny.T21 : Bool × List (List Nat × List Nat) := (true, [([], []), ([0], [0]), ([], []), ([], []), ([3], [3]), ([4], [4]), ([2, 5], [2, 5]), ([], []), ([7, 6], [7]), ([8], [8]), ([1, 6, 0, 1, 2, 3, 4, 5, 6, 7, 8, 9], [1, 6]), ([10, 9, 8, 0, 1, 2, 3, 4, 5, 6, 7, 8, 9], [9, 10])])
def spec_l7DrawAny.B21 : List Nat := [0, 1, 0, 0, 8, 24, 60, 0, 252, 508, 1023, 2047]
theorem spec_l7DrawAny.tab21 : rtab .any (opsOf Try.f75 21) = spec_l7DrawAny.T21 := by kernel_rfl
theorem spec_l7DrawAny.bits21 : waitsOk spec_l7DrawAny.T21.2 spec_l7DrawAny.B21 = true := by kernel_rfl
set_option maxHeartbeats 8000000 in
set_option maxRecDepth 100000 in
theorem spec_l7DrawAny.calls (k : Nat) (g : Nat) (s0_0 : List Int) (s0_1 : Int) (r1 : List Int) (r2 : List (S62)) (r3 : Int) (r4 : Int) (w0 w : World) (hI : IsS94 w0 w g s0_0 s0_1) (hB : Below w0.heap.size w0 w) (h : spec_l7DrawAny.f k s0_0 s0_1 = some (r1, r2, r3, r4)) :
  Calls Try.prog 75 #[.pointer (some ⟨g, 0, none⟩)] w fun e w' => ∃ v0_ v1_ : Value, e = .returned (.agg #[v0_, v1_, .int .i64 r3]) ∧ Kd.R (Kd.int .i64) 2 w' w.heap.size (fun _ => True) v0_ r1 ∧ Kd.R k62 62 w' w.heap.size (fun _ => True) v1_ r2 ∧ IsS94 w0 w' g s0_0 r4 ∧ Below w0.heap.size w0 w' ∧ KeepBut w w' g none := by
 have hu25 := Try.underlying25
 have hu62 := Try.underlying62
 have HI0 := Aside0.mk hI
 have HK := Aside0.mk (KeepBut.refl w g none)
 have HL := Aside0.mk hB.size
 clear hI
 have HW0 := Aside0.mk hB.size
 have HB := Aside0.mk hB
 clear hB
 have H : ((spec_l7Draw.f k s0_0 s0_1).bind fun bt246 => ((spec_l1Rd_once.f s0_0 bt246.2.2.2 4).bind fun bt255 => (if bt255.1 = true then ((spec_l1Rd_below.f s0_0 bt255.2 8).bind fun bt257 => (if bt257.1 = 7 then ((spec_l1Rd_below.f s0_0 bt257.2 2).bind fun bt259 => (spec_l7DrawAny.l0 k (wrap64 ((wrap64 (Int.tdiv (wrap64 ((bt246.1.length : Int) * 2)) 3)) + bt259.1)) (bt246.2.1.length : Int) s0_0 bt259.2 bt246.1 bt246.2.1 bt246.2.2.1)) else (if bt257.1 = 0 then (some (bt246.1, bt246.2.1, wrap64 (bt246.2.2.1 + 1), bt257.2)) else (if bt257.1 = 1 then (spec_l7DrawAny.j1 k bt257.1 (decide ((bt246.2.1.length : Int) > 0)) s0_0 bt257.2 bt246.1 bt246.2.1 bt246.2.2.1) else (spec_l7DrawAny.j1 k bt257.1 false s0_0 bt257.2 bt246.1 bt246.2.1 bt246.2.2.1))))) else (some (bt246.1, bt246.2.1, bt246.2.2.1, bt255.2))))) = some (r1, r2, r3, r4) := h
 clear h
 replace H := Option.bind_eq_some_iff.mp H
 obtain ⟨⟨t246, t249, t252, t253⟩, A20, H⟩ := H
 replace H : ((spec_l1Rd_once.f s0_0 t253 4).bind fun bt255 => (if bt255.1 = true then ((spec_l1Rd_below.f s0_0 bt255.2 8).bind fun bt257 => (if bt257.1 = 7 then ((spec_l1Rd_below.f s0_0 bt257.2 2).bind fun bt259 => (spec_l7DrawAny.l0 k (wrap64 ((wrap64 (Int.tdiv (wrap64 ((t246.length : Int) * 2)) 3)) + bt259.1)) (t249.length : Int) s0_0 bt259.2 t246 t249 t252)) else (if bt257.1 = 0 then (some (t246, t249, wrap64 (t252 + 1), bt257.2)) else (if bt257.1 = 1 then (spec_l7DrawAny.j1 k bt257.1 (decide ((t249.length : Int) > 0)) s0_0 bt257.2 t246 t249 t252) else (spec_l7DrawAny.j1 k bt257.1 false s0_0 bt257.2 t246 t249 t252))))) else (some (t246, t249, t252, bt255.2)))) = some (r1, r2, r3, r4) := H
 have A2 := Aside0.mk A20
 clear A20
 replace H := Option.bind_eq_some_iff.mp H
 obtain ⟨⟨t255, t256⟩, A30, H⟩ := H
 replace H : (if t255 = true then ((spec_l1Rd_below.f s0_0 t256 8).bind fun bt257 => (if bt257.1 = 7 then ((spec_l1Rd_below.f s0_0 bt257.2 2).bind fun bt259 => (spec_l7DrawAny.l0 k (wrap64 ((wrap64 (Int.tdiv (wrap64 ((t246.length : Int) * 2)) 3)) + bt259.1)) (t249.length : Int) s0_0 bt259.2 t246 t249 t252)) else (if bt257.1 = 0 then (some (t246, t249, wrap64 (t252 + 1), bt257.2)) else (if bt257.1 = 1 then (spec_l7DrawAny.j1 k bt257.1 (decide ((t249.length : Int) > 0)) s0_0 bt257.2 t246 t249 t252) else (spec_l7DrawAny.j1 k bt257.1 false s0_0 bt257.2 t246 t249 t252))))) else (some (t246, t249, t252, t256))) = some (r1, r2, r3, r4) := H
 have A3 := Aside0.mk A30
 clear A30
 by_cases c4 : t255 = true
 ·subst c4
  have H1 : ((spec_l1Rd_below.f s0_0 t256 8).bind fun bt257 => (if bt257.1 = 7 then ((spec_l1Rd_below.f s0_0 bt257.2 2).bind fun bt259 => (spec_l7DrawAny.l0 k (wrap64 ((wrap64 (Int.tdiv (wrap64 ((t246.length : Int) * 2)) 3)) + bt259.1)) (t249.length : Int) s0_0 bt259.2 t246 t249 t252)) else (if bt257.1 = 0 then (some (t246, t249, wrap64 (t252 + 1), bt257.2)) else (if bt257.1 = 1 then (spec_l7DrawAny.j1 k bt257.1 (decide ((t249.length : Int) > 0)) s0_0 bt257.2 t246 t249 t252) else (spec_l7DrawAny.j1 k bt257.1 false s0_0 bt257.2 t246 t249 t252))))) = some (r1, r2, r3, r4) := by rw [if_pos rfl] at H; exact H
  clear H
  have H := H1
  clear H1
  replace H := Option.bind_eq_some_iff.mp H
  obtain ⟨⟨t257, t258⟩, A50, H⟩ := H
  replace H : (if t257 = 7 then ((spec_l1Rd_below.f s0_0 t258 2).bind fun bt259 => (spec_l7DrawAny.l0 k (wrap64 ((wrap64 (Int.tdiv (wrap64 ((t246.length : Int) * 2)) 3)) + bt259.1)) (t249.length : Int) s0_0 bt259.2 t246 t249 t252)) else (if t257 = 0 then (some (t246, t249, wrap64 (t252 + 1), t258)) else (if t257 = 1 then (spec_l7DrawAny.j1 k t257 (decide ((t249.length : Int) > 0)) s0_0 t258 t246 t249 t252) else (spec_l7DrawAny.j1 k t257 false s0_0 t258 t246 t249 t252)))) = some (r1, r2, r3, r4) := H
  have A5 := Aside0.mk A50
  clear A50
  by_cases c6 : t257 = 7
  ·rw [if_pos c6] at H
   have c6b0 : (t257 == 7) = true := beq_iff_eq.mpr c6
   have c6b1 : (t257 != 7) = false := bne_eq_false_iff_eq.mpr c6
   clear c6
   replace H := Option.bind_eq_some_iff.mp H
   obtain ⟨⟨t259, t260⟩, A70, H⟩ := H
   replace H : (spec_l7DrawAny.l0 k (wrap64 ((wrap64 (Int.tdiv (wrap64 ((t246.length : Int) * 2)) 3)) + t259)) (t249.length : Int) s0_0 t260 t246 t249 t252) = some (r1, r2, r3, r4) := H
   have A7 := Aside0.mk A70
   clear A70
   have H' := Aside0.mk H
   clear H
   go_enter Try.func75, Try.ntmps75
   try go_wp2_with (first | ((with_reducible refine gate_dst (N := 2) rfl ?_); (try (refine gate_guard (by rfl) ?_; dsimp only)); refine box_event ?hg (N := 2) ?hd (cs := #[.slice none 0 0, .slice none 0 0, .int .i64 0]) (t := 25) ?hr ?_; (case hd => rfl); (case hg => rfl); (case hr => exact qdk6_23); intro gb245 hg w8 hbox hb; have n0_ := Aside0.mk (IsS94.below qdk6_18 hb); have n1_ := Aside0.mk (KeepBut.trans (qdk6_8 HK) (KeepBut.of_below hb g none) (.inl rfl)); have n2_ := Aside0.mk (below_step (qdk6_17 HB) hb); have n3_ := Aside0.mk (hbox); have n4_ := Aside0.mk ((by rw [hg]; exact (keep_size (w := w) (g := g) (row := none) (qdk6_8 HK)) : w.heap.size ≤ gb245)); have n5_ := Aside0.mk ((Nat.le_trans HW0.out (by rw [hg]; exact (keep_size (w := w) (g := g) (row := none) (qdk6_8 HK)) : w.heap.size ≤ gb245) : w0.heap.size ≤ gb245)); have n6_ := Aside0.mk ((by rw [hg]; exact Nat.ne_of_lt (IsS94.lt (show IsS94 w0 _ g s0_0 s0_1 from by repeat (first | (with_reducible first | exact HI0.out | apply IsS94.alloc | apply IsS94.drewN | apply IsS94.drew | apply IsS94.set_1) | exact HI0.out))) : g ≠ gb245)); have n7_ := Aside0.mk ((by rw [hg]; exact Nat.ne_of_gt (IsS94.lt (show IsS94 w0 _ g s0_0 s0_1 from by repeat (first | (with_reducible first | exact HI0.out | apply IsS94.alloc | apply IsS94.drewN | apply IsS94.drew | apply IsS94.set_1) | exact HI0.out))) : gb245 ≠ g)); clear HI0 HK HB; have HI0 := n0_; have HK := n1_; have HB := n2_; have BK245 := n3_; have GW245 := n4_; have GE245 := n5_; have NB0_245 := n6_; have NB245_0 := n7_; clear n0_ n1_ n2_ n3_ n4_ n5_ n6_ n7_; clear hb hbox hg) | ((with_reducible refine gate_callee (f := 77) rfl ?_); refine goesL_ (some 8) rfl rfl Try.func77 qdk6_13 rfl #[.pointer (some ⟨g, 0, none⟩)] rfl qdk6_7 ?_; (with_reducible refine (spec_l7Draw.calls k g s0_0 s0_1 t246 t249 t252 t253 w0 _ ?side1 ?side2 A2.out).mono ?_); (case side1 => exact (qdk6_11 NB0_245)); (case side2 => exact (qdk6_10 HB GE245)); rintro e w9 ⟨v247, v250, rfl, ho0, ho1, hi, hb, hk⟩; refine ⟨_, rfl, ?_⟩; have n0_ := Aside0.mk (KeepBut.blk hk (g' := gb245) (o := .cells #[.slice none 0 0, .slice none 0 0, .int .i64 0] 25 (0, 0)) (qdk6_1 BK245) NB245_0.out (by simp)); have n1_ := Aside0.mk (Kd.R_lower ho0 (keep_size (w := w) (g := g) (row := none) (qdk6_3 HK GW245))); have n2_ := Aside0.mk (Kd.R_lower ho1 (keep_size (w := w) (g := g) (row := none) (qdk6_3 HK GW245))); have n3_ := Aside0.mk (KeepBut.trans (qdk6_3 HK GW245) hk (.inl rfl)); have n4_ := Aside0.mk (hb); have n5_ := Aside0.mk (hi); clear BK245 HK HB HI0; have BK245 := n0_; have HO248 := n1_; have HO251 := n2_; have HK := n3_; have HB := n4_; have HI0 := n5_; clear n0_ n1_ n2_ n3_ n4_ n5_; (try clear hb); (try clear hb2); (try clear hk); (try clear hi); (try clear ho0); (try clear ho1)) | ((with_reducible refine gate_dst (N := 3) rfl ?_); (try (refine gate_guard (by rfl) ?_; dsimp only)); refine box_event ?hg (N := 3) ?hd (cs := #[.slice none 0 0, .slice none 0 0, .int .i64 0]) (t := 25) ?hr ?_; (case hd => rfl); (case hg => rfl); (case hr => exact qdk6_23); intro gb254 hg w10 hbox hb; have n0_ := Aside0.mk (Kd.R_below (qdk6_4 HO248) hb); have n1_ := Aside0.mk (Kd.R_below (qdk6_4 HO251) hb); have n2_ := Aside0.mk (IsS94.below (qdk6_11 NB0_245) hb); have n3_ := Aside0.mk (blk_below (qdk6_1 BK245) hb); have n4_ := Aside0.mk (KeepBut.trans (qdk6_3 HK GW245) (KeepBut.of_below hb g none) (.inl rfl)); have n5_ := Aside0.mk (below_step (qdk6_10 HB GE245) hb); have n6_ := Aside0.mk (hbox); have n7_ := Aside0.mk ((by rw [hg]; exact (keep_size (w := w) (g := g) (row := none) (qdk6_3 HK GW245)) : w.heap.size ≤ gb254)); have n8_ := Aside0.mk ((Nat.le_trans HW0.out (by rw [hg]; exact (keep_size (w := w) (g := g) (row := none) (qdk6_3 HK GW245)) : w.heap.size ≤ gb254) : w0.heap.size ≤ gb254)); have n9_ := Aside0.mk ((qnl_pdkx6 BK245 hg : gb245 ≠ gb254)); have n10_ := Aside0.mk ((qng_pdkx6 BK245 hg : gb254 ≠ gb245)); have n11_ := Aside0.mk ((by rw [hg]; exact Nat.ne_of_lt (IsS94.lt (show IsS94 w0 _ g s0_0 t253 from by repeat (first | (with_reducible first | exact HI0.out | apply IsS94.alloc | apply IsS94.drewN | apply IsS94.drew | apply IsS94.set_1 | refine IsS94.far ?_ NB0_245.out _) | exact HI0.out))) : g ≠ gb254)); have n12_ := Aside0.mk ((by rw [hg]; exact Nat.ne_of_gt (IsS94.lt (show IsS94 w0 _ g s0_0 t253 from by repeat (first | (with_reducible first | exact HI0.out | apply IsS94.alloc | apply IsS94.drewN | apply IsS94.drew | apply IsS94.set_1 | refine IsS94.far ?_ NB0_245.out _) | exact HI0.out))) : gb254 ≠ g)); clear HO248 HO251 HI0 BK245 HK HB; have HO248 := n0_; have HO251 := n1_; have HI0 := n2_; have BK245 := n3_; have HK := n4_; have HB := n5_; have BK254 := n6_; have GW254 := n7_; have GE254 := n8_; have NB245_254 := n9_; have NB254_245 := n10_; have NB0_254 := n11_; have NB254_0 := n12_; clear n0_ n1_ n2_ n3_ n4_ n5_ n6_ n7_ n8_ n9_ n10_ n11_ n12_; clear hb hbox hg; obtain ⟨Ao11, co11, eo11⟩ := Kd.R_slice HO248.out; subst eo11; have hnb12 := NB254_245.out; have hnc12 := NB245_254.out; have hnb13 := NB254_0.out; have hnc13 := NB0_254.out; have hcz14_0 : w10.cell? ⟨gb254, 0, none⟩ = some (.slice none 0 0) := (blk_cell BK254.out 0).trans rfl; have hcz14_1 : w10.cell? ⟨gb254, 1, none⟩ = some (.slice none 0 0) := (blk_cell BK254.out 1).trans rfl; have hcz14_2 : w10.cell? ⟨gb254, 2, none⟩ = some (.int .i64 0) := (blk_cell BK254.out 2).trans rfl; have hfz14_0 := blk_frozen BK254.out 0; have hfz14_1 := blk_frozen BK254.out 1; have hfz14_2 := blk_frozen BK254.out 2; obtain ⟨Ao15, co15, eo15⟩ := Kd.R_slice HO251.out; subst eo15) | ((with_reducible refine gate_callee (f := 46) rfl ?_); refine goesL_ (some 10) rfl rfl Try.func46 qdk6_13 rfl #[.pointer (some ⟨g, 0, none⟩), .int .i64 4] rfl qdk6_7 ?_; (with_reducible refine (spec_l1Rd_once.calls g s0_0 t253 4 true t256 w0 _ ?side1 ?side2 A3.out).mono ?_); (case side1 => exact (qdk6_6 NB0_245 NB0_254)); (case side2 => exact (qdk6_5 HB GE245 GE254)); rintro e w16 ⟨rfl, hi, hb, hk⟩; refine ⟨_, rfl, ?_⟩; have n0_ := Aside0.mk (KeepBut.blk hk (g' := gb245) (o := .cells #[.slice none 0 0, .slice none 0 0, .int .i64 0] 25 (0, 0)) (qdk6_9 NB245_254 BK245) NB245_0.out (by simp)); have n1_ := Aside0.mk (Kd.R_mono (Kd.R_keep (IsS94.apart (show IsS94 w0 _ g s0_0 t253 from by repeat (first | (with_reducible first | exact HI0.out | apply IsS94.alloc | apply IsS94.drewN | apply IsS94.drew | apply IsS94.set_1 | refine IsS94.far ?_ NB0_245.out _ | refine IsS94.far ?_ NB0_254.out _) | exact HI0.out)) (qdk6_20 HO248 BK254) qdk6_16) hk (fun _ h => h.2)) (fun _ h => h.1)); have n2_ := Aside0.mk (Kd.R_mono (Kd.R_keep (IsS94.apart (show IsS94 w0 _ g s0_0 t253 from by repeat (first | (with_reducible first | exact HI0.out | apply IsS94.alloc | apply IsS94.drewN | apply IsS94.drew | apply IsS94.set_1 | refine IsS94.far ?_ NB0_245.out _ | refine IsS94.far ?_ NB0_254.out _) | exact HI0.out)) (qdk6_20 HO251 BK254) qdk6_16) hk (fun _ h => h.2)) (fun _ h => h.1)); have n3_ := Aside0.mk (KeepBut.blk hk (g' := gb254) (o := .cells #[.slice Ao11 t246.length co11, .slice Ao15 t249.length co15, .int .i64 t252] 25 (0, 0)) (by (with_reducible repeat (first | refine blk_drewN ?_ _ | refine blk_drew ?_ | refine blk_alloc ?_ _)); refine blk_put (cs := #[.slice Ao11 t246.length co11, .slice Ao15 t249.length co15, .int .i64 0]) ?_ 2 _ rfl; (with_reducible repeat (first | refine blk_drewN ?_ _ | refine blk_drew ?_ | refine blk_alloc ?_ _)); refine blk_put (cs := #[.slice Ao11 t246.length co11, .slice none 0 0, .int .i64 0]) ?_ 1 _ rfl; (with_reducible repeat (first | refine blk_drewN ?_ _ | refine blk_drew ?_ | refine blk_alloc ?_ _)); refine blk_put (cs := #[.slice none 0 0, .slice none 0 0, .int .i64 0]) ?_ 0 _ rfl; (with_reducible repeat (first | refine blk_drewN ?_ _ | refine blk_drew ?_ | refine blk_alloc ?_ _)); exact BK254.out) NB254_0.out (by simp)); have n4_ := Aside0.mk (KeepBut.trans (qdk6_2 HK GW245 GW254) hk (.inl rfl)); have n5_ := Aside0.mk (hb); have n6_ := Aside0.mk (hi); clear BK245 HO248 HO251 BK254 HK HB HI0; have BK245 := n0_; have HO248 := n1_; have HO251 := n2_; have BK254 := n3_; have HK := n4_; have HB := n5_; have HI0 := n6_; clear n0_ n1_ n2_ n3_ n4_ n5_ n6_; (try clear hb); (try clear hb2); (try clear hk); (try clear hi)) | ((with_reducible refine gate_callee (f := 47) rfl ?_); refine goesL_ (some 14) rfl rfl Try.func47 qdk6_13 rfl #[.pointer (some ⟨g, 0, none⟩), .int .i64 8] rfl qdk6_7 ?_; (with_reducible refine (spec_l1Rd_below.calls g s0_0 t256 8 t257 t258 w0 _ ?side1 ?side2 A5.out).mono ?_); (case side1 => exact (qdk6_6 NB0_245 NB0_254)); (case side2 => exact (qdk6_5 HB GE245 GE254)); rintro e w17 ⟨rfl, hi, hb, hk⟩; refine ⟨_, rfl, ?_⟩; have n0_ := Aside0.mk (KeepBut.blk hk (g' := gb245) (o := .cells #[.slice none 0 0, .slice none 0 0, .int .i64 0] 25 (0, 0)) (qdk6_1 BK245) NB245_0.out (by simp)); have n1_ := Aside0.mk (Kd.R_mono (Kd.R_keep (IsS94.apart (show IsS94 w0 _ g s0_0 t256 from by repeat (first | (with_reducible first | exact HI0.out | apply IsS94.alloc | apply IsS94.drewN | apply IsS94.drew | apply IsS94.set_1 | refine IsS94.far ?_ NB0_245.out _ | refine IsS94.far ?_ NB0_254.out _) | exact HI0.out)) (qdk6_4 HO248) qdk6_16) hk (fun _ h => h.2)) (fun _ h => h.1)); have n2_ := Aside0.mk (Kd.R_mono (Kd.R_keep (IsS94.apart (show IsS94 w0 _ g s0_0 t256 from by repeat (first | (with_reducible first | exact HI0.out | apply IsS94.alloc | apply IsS94.drewN | apply IsS94.drew | apply IsS94.set_1 | refine IsS94.far ?_ NB0_245.out _ | refine IsS94.far ?_ NB0_254.out _) | exact HI0.out)) (qdk6_4 HO251) qdk6_16) hk (fun _ h => h.2)) (fun _ h => h.1)); have n3_ := Aside0.mk (KeepBut.blk hk (g' := gb254) (o := .cells #[.slice Ao11 t246.length co11, .slice Ao15 t249.length co15, .int .i64 t252] 25 (0, 0)) (qdk6_1 BK254) NB254_0.out (by simp)); have n4_ := Aside0.mk (KeepBut.trans (qdk6_2 HK GW245 GW254) hk (.inl rfl)); have n5_ := Aside0.mk (hb); have n6_ := Aside0.mk (hi); clear BK245 HO248 HO251 BK254 HK HB HI0; have BK245 := n0_; have HO248 := n1_; have HO251 := n2_; have BK254 := n3_; have HK := n4_; have HB := n5_; have HI0 := n6_; clear n0_ n1_ n2_ n3_ n4_ n5_ n6_; (try clear hb); (try clear hb2); (try clear hk); (try clear hi)))
   have n0_ := Aside0.mk (Kd.R_drew HO248.out)
   have n1_ := Aside0.mk (Kd.R_drew HO251.out)
   have n2_ := Aside0.mk (blk_drew BK245.out)
   have n3_ := Aside0.mk (blk_drew BK254.out)
   have n4_ := Aside0.mk (IsS94.drew HI0.out)
   have n5_ := Aside0.mk (keep_drew HK.out)
   have n6_ := Aside0.mk (below_drew1 HB.out)
   clear HO248 HO251 BK245 BK254 HI0 HK HB
   have HO248 := n0_
   have HO251 := n1_
   have BK245 := n2_
   have BK254 := n3_
   have HI0 := n4_
   have HK := n5_
   have HB := n6_
   clear n0_ n1_ n2_ n3_ n4_ n5_ n6_
   refine start_ (n := 9) (S := fun w' => w'.cell? ⟨gb254, 0, none⟩ = some (.slice Ao11 t246.length co11) ∧ w'.cell? ⟨gb254, 1, none⟩ = some (.slice Ao15 t249.length co15) ∧ w'.cell? ⟨gb254, 2, none⟩ = some (.int .i64 t252)) (ds := []) (bs_ 9 0) qdk6_13 rfl rfl ⟨(blk_cell BK254.out 0).trans rfl, (blk_cell BK254.out 1).trans rfl, (blk_cell BK254.out 2).trans rfl⟩ (fun hHeld => ?_); refine with_tabW spec_l7DrawAny.tab6 spec_l7DrawAny.bits6 (fun HT_ HW_ => ?_)
   generalize w17.drew = w18 at HO248 HO251 BK245 BK254 HI0 HK HB hHeld ⊢
   refine pure_ (i := 0) (N := some 17) (bs_ 9 1) rfl rfl (any_of HT_.out qdk6_13) (fun _ _ _ h => h) (Or.inl ⟨by rfl, qpy_pdkx6⟩) qpa_pdkx6 ?_
   refine pure_ (i := 5) (N := some 22) (bs_ 9 33) rfl rfl (any_of HT_.out qdk6_13) (fun _ _ _ h => h) (Or.inl ⟨by rfl, qpy_pdkx6⟩) qpa_pdkx6 ?_
   refine take_ (i := 1) (N := some 18) (bs_ 9 35) rfl rfl (take_ofW HT_.out HW_.out qdk6_13) (fun _ _ _ h => h) (Or.inl ⟨by rfl, qpt3_pdkx6⟩) hHeld qpa_pdkx6 ?_
   refine pure_ (i := 2) (N := some 19) (bs_ 9 39) rfl rfl (any_of HT_.out qdk6_13) (fun _ _ _ h => h) (Or.inl ⟨by rfl, qpy_pdkx6⟩) qpa_pdkx6 ?_
   refine pure_ (i := 3) (N := some 20) (bs_ 9 47) rfl rfl (any_of HT_.out qdk6_13) (fun _ _ _ h => h) (Or.inl ⟨by rfl, qpy_pdkx6⟩) qpa_pdkx6 ?_
   refine pure_ (i := 4) (N := some 21) (bs_ 9 63) rfl rfl (any_of HT_.out qdk6_13) (fun _ _ _ h => h) (Or.inl ⟨by rfl, qpy_pdkx6⟩) qpa_pdkx6 ?_
   refine one_ (i := 6) (N := some 23) (bs_ 9 127) rfl rfl (one_of HT_.out qdk6_13) qdk6_16 (fun K hK => ?_)
   refine goes_ Try.func47 qdk6_13 rfl #[.pointer (some ⟨g, 0, none⟩), .int .i64 2] (by rfl) rfl rfl qdk6_7 ?_
   with_reducible refine (spec_l1Rd_below.calls g s0_0 t258 2 t259 t260 w0 _ ?side1 ?side2 A7.out).mono ?_
   (case side1 => exact (qdk6_6 NB0_245 NB0_254))
   (case side2 => exact (qdk6_5 HB GE245 GE254))
   rintro e w19 ⟨rfl, hi, hb, hk⟩
   refine ⟨_, rfl, ?_⟩
   have n0_ := Aside0.mk (KeepBut.blk hk (g' := gb245) (o := .cells #[.slice none 0 0, .slice none 0 0, .int .i64 0] 25 (0, 0)) (qdk6_1 BK245) NB245_0.out (by simp))
   have n1_ := Aside0.mk (Kd.R_mono (Kd.R_keep (IsS94.apart (show IsS94 w0 _ g s0_0 t258 from by repeat (first | (with_reducible first | exact HI0.out | apply IsS94.alloc | apply IsS94.drewN | apply IsS94.drew | apply IsS94.set_1 | refine IsS94.far ?_ NB0_245.out _ | refine IsS94.far ?_ NB0_254.out _) | exact HI0.out)) (qdk6_4 HO248) qdk6_16) hk (fun _ h => h.2)) (fun _ h => h.1))
   have n2_ := Aside0.mk (Kd.R_mono (Kd.R_keep (IsS94.apart (show IsS94 w0 _ g s0_0 t258 from by repeat (first | (with_reducible first | exact HI0.out | apply IsS94.alloc | apply IsS94.drewN | apply IsS94.drew | apply IsS94.set_1 | refine IsS94.far ?_ NB0_245.out _ | refine IsS94.far ?_ NB0_254.out _) | exact HI0.out)) (qdk6_4 HO251) qdk6_16) hk (fun _ h => h.2)) (fun _ h => h.1))
   have n3_ := Aside0.mk (KeepBut.blk hk (g' := gb254) (o := .cells #[.slice Ao11 t246.length co11, .slice Ao15 t249.length co15, .int .i64 t252] 25 (0, 0)) (qdk6_1 BK254) NB254_0.out (by simp))
   have n4_ := Aside0.mk (KeepBut.trans (qdk6_2 HK GW245 GW254) hk (.inl rfl))
   have n5_ := Aside0.mk (hb)
   have n6_ := Aside0.mk (hi)
   clear BK245 HO248 HO251 BK254 HK HB HI0
   have BK245 := n0_
   have HO248 := n1_
   have HO251 := n2_
   have BK254 := n3_
   have HK := n4_
   have HB := n5_
   have HI0 := n6_
   clear n0_ n1_ n2_ n3_ n4_ n5_ n6_
   (try clear hb)
   (try clear hb2)
   (try clear hk)
   (try clear hi)
   refine hK.out _ _ ⟨(blk_cell BK254.out 0).trans rfl, (blk_cell BK254.out 1).trans rfl, (blk_cell BK254.out 2).trans rfl⟩ (fun hHeld => ?_)
   clear hK K
   refine norm_ (a' := ?_) ?_ ?_
   rotate_left
   ·show Act.put _ (some 23) _ = _
    simp only [Act.put, List.setIfInBounds_toArray, List.set_cons_zero, List.set_cons_succ, i64_w, i32_w]
    rfl
   refine pure_ (i := 7) (N := some 24) (bs_ 9 255) rfl rfl (any_of HT_.out qdk6_13) (fun _ _ _ h => h) (Or.inl ⟨by rfl, qpy_pdkx6⟩) qpa_pdkx6 ?_
   refine pure_ (i := 8) (N := some 5) (bs_ 9 511) rfl rfl (any_of HT_.out qdk6_13) (fun _ _ _ h => h) (Or.inl ⟨by rfl, qpy_pdkx6⟩) qpa_pdkx6 ?_
   refine done_ (done_of HT_.out qdk6_13) ?_
   have hcz20_0 : w19.cell? ⟨gb254, 0, none⟩ = some (.slice Ao11 t246.length co11) := (blk_cell BK254.out 0).trans rfl
   have hcz20_1 : w19.cell? ⟨gb254, 1, none⟩ = some (.slice Ao15 t249.length co15) := (blk_cell BK254.out 1).trans rfl
   have hcz20_2 : w19.cell? ⟨gb254, 2, none⟩ = some (.int .i64 t252) := (blk_cell BK254.out 2).trans rfl
   have hfz20_0 := blk_frozen BK254.out 0
   have hfz20_1 := blk_frozen BK254.out 1
   have hfz20_2 := blk_frozen BK254.out 2
   try go_wp2
   go_loopg [6] k (fun kq v6 w' => ∃ (x6_1 : Int) (x255001_1 : List (S62)) (x255002_1 : Int) (u255001 : Value), v6 = .int .i64 x6_1 ∧ Aside0 (spec_l7DrawAny.l0 kq (wrap64 ((wrap64 (Int.tdiv (wrap64 ((t246.length : Int) * 2)) 3)) + t259)) x6_1 s0_0 t260 t246 x255001_1 x255002_1 = some (r1, r2, r3, r4)) ∧ Aside0 (kq ≤ k) ∧ Aside0 (Kd.R (Kd.int .i64) 2 w' w.heap.size (fun _ => True) (.slice Ao11 t246.length co11) t246) ∧ Aside0 (Kd.R k62 62 w' w.heap.size (fun _ => True) u255001 x255001_1) ∧ Aside0 (w'.heap[gb245]? = some (.cells #[(.slice none 0 0), (.slice none 0 0), .int .i64 0] 25 (0, 0))) ∧ Aside0 (w'.heap[gb254]? = some (.cells #[(.slice Ao11 t246.length co11), u255001, .int .i64 x255002_1] 25 (0, 0))) ∧ Aside0 (IsS94 w0 w' g s0_0 t260) ∧ Aside0 (KeepBut w w' g none) ∧ Aside0 (Below w0.heap.size w0 w'))
   case atStart => exact ⟨((t249.length : Int)), (t249), (t252), (.slice Ao15 t249.length co15), qdk6_25, H', ⟨Nat.le_refl _⟩, ⟨(rdk6_5 HO248)⟩, ⟨(rdk6_5 HO251)⟩, ⟨(rdk6_4 BK245)⟩, ⟨(rdk6_4 BK254)⟩, ⟨(rdk6_2 HI0 NB0_245 NB0_254)⟩, ⟨(rdk6_3 HK GW245 GW254)⟩, ⟨(rdk6_1 HB HI0 GE245 GE254)⟩⟩
   case round =>
    clear H'
    obtain ⟨x6_1, x255001_1, x255002_1, u255001, rfl, HA, HK1, HO_255000, HO_255001, BK245, BK254, HI0, HK, HB⟩ := hrel
    cases gk with
    | zero => exact absurd HA.out (by simp [spec_l7DrawAny.l0])
    | succ k1 =>
     have H := HA.out
     clear HA
     simp only [spec_l7DrawAny.l0] at H
     by_cases c21 : x6_1 < (wrap64 ((wrap64 (Int.tdiv (wrap64 ((t246.length : Int) * 2)) 3)) + t259))
     ·rw [if_pos c21] at H
      have c21b0 : decide (x6_1 < (wrap64 ((wrap64 (Int.tdiv (wrap64 ((t246.length : Int) * 2)) 3)) + t259))) = true := decide_eq_true c21
      clear c21
      by_cases c22 : x255001_1.length < 4398046511104
      ·rw [if_pos c22] at H
       have LMc22 := Aside0.mk c22
       clear c22
       obtain ⟨y261, hy261⟩ : ∃ y_ : List (S62), y_ = (x255001_1 ++ [(⟨IntKind.u64.wrap (wrap64 (x6_1 * 7)), wrap64 (1000 + x6_1), 1, false⟩ : S62)]) := ⟨_, rfl⟩
       replace H : (spec_l7DrawAny.l0 k1 (wrap64 ((wrap64 (Int.tdiv (wrap64 ((t246.length : Int) * 2)) 3)) + t259)) (wrap64 (x6_1 + 1)) s0_0 t260 t246 y261 (wrap64 (x255002_1 + 1))) = some (r1, r2, r3, r4) := by first | (rw [hy261]; with_reducible exact H) | (have H2_ := (Option.bind_some _ _).symm.trans H; rw [hy261]; with_reducible exact H2_) | (have H2_ := (Option.bind_some _ _).symm.trans H; with_reducible exact H2_) | with_reducible exact H | (rw [hy261]; exact H) | exact H
       have Ny261 := Aside0.mk hy261
       clear hy261
       have H' := Aside0.mk H
       clear H
       have hnb23 := NB254_245.out
       have hnc23 := NB245_254.out
       have hnb24 := NB254_0.out
       have hnc24 := NB0_254.out
       have hcz25_0 : wr.cell? ⟨gb254, 0, none⟩ = some (.slice Ao11 t246.length co11) := (blk_cell BK254.out 0).trans rfl
       have hcz25_1 : wr.cell? ⟨gb254, 1, none⟩ = some (u255001) := (blk_cell BK254.out 1).trans rfl
       have hcz25_2 : wr.cell? ⟨gb254, 2, none⟩ = some (.int .i64 x255002_1) := (blk_cell BK254.out 2).trans rfl
       have hfz25_0 := blk_frozen BK254.out 0
       have hfz25_1 := blk_frozen BK254.out 1
       have hfz25_2 := blk_frozen BK254.out 2
       go_wp2_with (first | ((with_reducible refine gate_builtin (b := .append) (xs := #[.tmp 34, .tmp 41]) rfl ?_); (try (refine gate_guard (by rfl) ?_; dsimp only)); at_builtin; refine Kd.R_append k62 w.heap.size rfl (.tmp 34) (.tmp 41) 23 62 (.agg #[(.int .u64 0), (.int .i64 0), (.int .i64 0), (.bool false)]) 32 rfl Try.underlying23 info62 rfl qdk6_16 (by omega) u255001 x255001_1 (⟨IntKind.u64.wrap (wrap64 (x6_1 * 7)), wrap64 (1000 + x6_1), 1, false⟩ : S62) [.int .u64 (IntKind.u64.wrap (wrap64 (x6_1 * 7))), .int .i64 (wrap64 (1000 + x6_1)), .int .i64 1, .bool false] (fun _ => True) (fun _ => False) rfl rfl ?aP (fun _ hk => hk.elim) ?aF ?aO (Below.refl _ _) ?aS ?aL ?_; (case aP => exact k62_mkM _ _ _ (⟨IntKind.u64.wrap (wrap64 (x6_1 * 7)), wrap64 (1000 + x6_1), 1, false⟩ : S62)); (case aF => exact (fun _ _ => trivial)); (case aO => exact (qdk6_4 HO_255001)); (case aS => exact (keep_size (w := w) (g := g) (row := none) (qdk6_2 HK GW245 GW254))); (case aL => have := LMc22.out; omega); intro v262 w26 ho hb hg hat; rw [← Ny261.out] at ho; have n0_ := Aside0.mk (Kd.R_over' (qdk6_4 HO_255000) (Kd.R_typed (qdk6_4 HO_255001)) qdk6_16 hg); have n1_ := Aside0.mk (blk_grown (g := gb245) (o := .cells #[.slice none 0 0, .slice none 0 0, .int .i64 0] 25 (0, 0)) (qdk6_1 BK245) hg (Kd.R_ne HO_255001.out BK245.out qdk6_16)); have n2_ := Aside0.mk (blk_grown (g := gb254) (o := .cells #[.slice Ao11 t246.length co11, u255001, .int .i64 x255002_1] 25 (0, 0)) (qdk6_1 BK254) hg (Kd.R_ne HO_255001.out BK254.out qdk6_16)); have n3_ := Aside0.mk (IsS94.grown (qdk6_6 NB0_245 NB0_254) hg (IsS94.own_ne HI0.out HO_255001.out qdk6_16)); have n4_ := Aside0.mk (below_weaken (qdk6_5 HB GE245 GE254) HL.out hb); have n5_ := Aside0.mk (KeepBut.trans (qdk6_2 HK GW245 GW254) (KeepBut.of_grown hg g) (Kd.R_base2 HO_255001.out)); have n6_ := Aside0.mk (ho); clear HO_255000 BK245 BK254 HI0 HB HK HO_255001; have HO_255000 := n0_; have BK245 := n1_; have BK254 := n2_; have HI0 := n3_; have HB := n4_; have HK := n5_; have HO263 := n6_; clear n0_ n1_ n2_ n3_ n4_ n5_ n6_; clear ho hb hg hat; obtain ⟨Ao27, co27, eo27⟩ := Kd.R_slice HO263.out; subst eo27; have hcz28_0 : w26.cell? ⟨gb254, 0, none⟩ = some (.slice Ao11 t246.length co11) := (blk_cell BK254.out 0).trans rfl; have hcz28_1 : w26.cell? ⟨gb254, 1, none⟩ = some (u255001) := (blk_cell BK254.out 1).trans rfl; have hcz28_2 : w26.cell? ⟨gb254, 2, none⟩ = some (.int .i64 x255002_1) := (blk_cell BK254.out 2).trans rfl; have hfz28_0 := blk_frozen BK254.out 0; have hfz28_1 := blk_frozen BK254.out 1; have hfz28_2 := blk_frozen BK254.out 2))
       go_roundg k1
       case measure => have := HK1.out; omega
       case rel => exact ⟨(wrap64 (x6_1 + 1)), (y261), (wrap64 (x255002_1 + 1)), (.slice Ao27 y261.length co27), qdk6_25, H', ⟨(by have := HK1.out; omega)⟩, ⟨(rdk6_17 HO_255000 BK254)⟩, ⟨(rdk6_17 HO263 BK254)⟩, ⟨(by (with_reducible repeat (first | refine blk_drewN ?_ _ | refine blk_drew ?_ | refine blk_alloc ?_ _)); refine blk_far ?_ NB245_254.out _; (with_reducible repeat (first | refine blk_drewN ?_ _ | refine blk_drew ?_ | refine blk_alloc ?_ _)); refine blk_far ?_ NB245_254.out _; (with_reducible repeat (first | refine blk_drewN ?_ _ | refine blk_drew ?_ | refine blk_alloc ?_ _)); exact BK245.out)⟩, ⟨(by (with_reducible repeat (first | refine blk_drewN ?_ _ | refine blk_drew ?_ | refine blk_alloc ?_ _)); refine blk_put (cs := #[.slice Ao11 t246.length co11, .slice Ao27 y261.length co27, .int .i64 x255002_1]) ?_ 2 _ rfl; (with_reducible repeat (first | refine blk_drewN ?_ _ | refine blk_drew ?_ | refine blk_alloc ?_ _)); refine blk_put (cs := #[.slice Ao11 t246.length co11, u255001, .int .i64 x255002_1]) ?_ 1 _ rfl; (with_reducible repeat (first | refine blk_drewN ?_ _ | refine blk_drew ?_ | refine blk_alloc ?_ _)); exact BK254.out)⟩, ⟨(rdk6_2 HI0 NB0_245 NB0_254)⟩, ⟨(rdk6_3 HK GW245 GW254)⟩, ⟨(rdk6_1 HB HI0 GE245 GE254)⟩⟩
      rw [if_neg c22] at H
      exact absurd H (by simp)
     rw [if_neg c21] at H
     have c21b0 : decide (x6_1 < (wrap64 ((wrap64 (Int.tdiv (wrap64 ((t246.length : Int) * 2)) 3)) + t259))) = false := decide_eq_false c21
     clear c21
     replace H := Option.bind_eq_some_iff.mp H
     obtain ⟨t264, A290, H⟩ := H
     replace H : (some (t264, x255001_1, x255002_1, t260)) = some (r1, r2, r3, r4) := H
     have A29 := Aside0.mk A290
     clear A290
     simp only [Option.some.injEq, Prod.mk.injEq] at H
     obtain ⟨rfl, rfl, rfl, rfl⟩ := H
     have hnb30 := NB254_245.out
     have hnc30 := NB245_254.out
     have hnb31 := NB254_0.out
     have hnc31 := NB0_254.out
     have hcz32_0 : wr.cell? ⟨gb254, 0, none⟩ = some (.slice Ao11 t246.length co11) := (blk_cell BK254.out 0).trans rfl
     have hcz32_1 : wr.cell? ⟨gb254, 1, none⟩ = some (u255001) := (blk_cell BK254.out 1).trans rfl
     have hcz32_2 : wr.cell? ⟨gb254, 2, none⟩ = some (.int .i64 x255002_1) := (blk_cell BK254.out 2).trans rfl
     have hfz32_0 := blk_frozen BK254.out 0
     have hfz32_1 := blk_frozen BK254.out 1
     have hfz32_2 := blk_frozen BK254.out 2
     obtain ⟨Ao33, co33, eo33⟩ := Kd.R_slice HO_255001.out
     subst eo33
     go_wp2_with (first | ((with_reducible refine gate_callee (f := 39) rfl ?_); refine goesL_ (some 53) rfl rfl Try.func39 qdk6_13 rfl #[.slice Ao33 x255001_1.length co33, .int .i64 (t246.length : Int)] rfl qdk6_7 ?_; (with_reducible refine (spec_l7Table.calls k1 _ _ x255001_1 (t246.length : Int) t264 _ ?side1 ?side2 A29.out).mono ?_); (case side1 => exact (by repeat (first | exact (Kd.R_reads' HO_255001.out).2.2 | (with_reducible refine Kd.C_alloc ?_ _) | (with_reducible refine Kd.C_drewN ?_ _) | (with_reducible refine Kd.C_drew ?_)))); (case side2 => exact (Kd.R_reads' HO_255001.out).2.1); rintro e w34 ⟨v265, rfl, ho0, hb⟩; refine ⟨_, rfl, ?_⟩; have n0_ := Aside0.mk (Kd.R_elder' (qdk6_4 HO_255000) (Kd.R_base ho0) hb); have n1_ := Aside0.mk (Kd.R_below (qdk6_4 HO_255001) hb); have n2_ := Aside0.mk (Kd.R_lower (Kd.R_new' ho0 (Kd.R_lt (qdk6_4 HO_255000))) (keep_size (w := w) (g := g) (row := none) (qdk6_2 HK GW245 GW254))); have n3_ := Aside0.mk (blk_below (qdk6_1 BK245) hb); have n4_ := Aside0.mk (blk_below (qdk6_1 BK254) hb); have n5_ := Aside0.mk (IsS94.below (qdk6_6 NB0_245 NB0_254) hb); have n6_ := Aside0.mk (KeepBut.trans (qdk6_2 HK GW245 GW254) (KeepBut.of_below hb g none) (.inl rfl)); have n7_ := Aside0.mk (below_step (qdk6_5 HB GE245 GE254) hb); clear HO_255000 HO_255001 BK245 BK254 HI0 HK HB; have HO_255000 := n0_; have HO_255001 := n1_; have HO266 := n2_; have BK245 := n3_; have BK254 := n4_; have HI0 := n5_; have HK := n6_; have HB := n7_; clear n0_ n1_ n2_ n3_ n4_ n5_ n6_ n7_; (try clear hb); (try clear hb2); (try clear hk); (try clear hi); (try clear ho0); obtain ⟨Ao35, co35, eo35⟩ := Kd.R_slice HO266.out; subst eo35; have hcz36_0 : w34.cell? ⟨gb254, 0, none⟩ = some (.slice Ao11 t246.length co11) := (blk_cell BK254.out 0).trans rfl; have hcz36_1 : w34.cell? ⟨gb254, 1, none⟩ = some (.slice Ao33 x255001_1.length co33) := (blk_cell BK254.out 1).trans rfl; have hcz36_2 : w34.cell? ⟨gb254, 2, none⟩ = some (.int .i64 x255002_1) := (blk_cell BK254.out 2).trans rfl; have hfz36_0 := blk_frozen BK254.out 0; have hfz36_1 := blk_frozen BK254.out 1; have hfz36_2 := blk_frozen BK254.out 2; have hnb37 := NB245_0.out; have hnc37 := NB0_245.out; have hcz38_0 : w34.cell? ⟨gb245, 0, none⟩ = some (.slice none 0 0) := (blk_cell BK245.out 0).trans rfl; have hcz38_1 : w34.cell? ⟨gb245, 1, none⟩ = some (.slice none 0 0) := (blk_cell BK245.out 1).trans rfl; have hcz38_2 : w34.cell? ⟨gb245, 2, none⟩ = some (.int .i64 0) := (blk_cell BK245.out 2).trans rfl; have hfz38_0 := blk_frozen BK245.out 0; have hfz38_1 := blk_frozen BK245.out 1; have hfz38_2 := blk_frozen BK245.out 2))
     refine bodyPost_ret (results_cell_row rfl _ _ gb245 25 #[.slice Ao35 t264.length co35, .slice Ao33 x255001_1.length co33, .int .i64 x255002_1] (0, 0) _ rfl (by (with_reducible repeat (first | refine blk_drewN ?_ _ | refine blk_drew ?_ | refine blk_alloc ?_ _)); refine blk_put (cs := #[.slice Ao35 t264.length co35, .slice Ao33 x255001_1.length co33, .int .i64 0]) ?_ 2 _ rfl; (with_reducible repeat (first | refine blk_drewN ?_ _ | refine blk_drew ?_ | refine blk_alloc ?_ _)); refine blk_put (cs := #[.slice Ao35 t264.length co35, .slice none 0 0, .int .i64 0]) ?_ 1 _ rfl; (with_reducible repeat (first | refine blk_drewN ?_ _ | refine blk_drew ?_ | refine blk_alloc ?_ _)); refine blk_put (cs := #[.slice none 0 0, .slice none 0 0, .int .i64 0]) ?_ 0 _ rfl; (with_reducible repeat (first | refine blk_drewN ?_ _ | refine blk_drew ?_ | refine blk_alloc ?_ _)); refine blk_far ?_ NB245_254.out _; (with_reducible repeat (first | refine blk_drewN ?_ _ | refine blk_drew ?_ | refine blk_alloc ?_ _)); exact BK245.out) Try.underlying25 rfl qdk6_13) rfl ?_
     exact ⟨_, _, rdk6_6, (rdk6_8 HO266 BK254 BK245), (rdk6_8 HO_255001 BK254 BK245), (rdk6_2 HI0 NB0_245 NB0_254), (rdk6_1 HB HI0 GE245 GE254), (rdk6_3 HK GW245 GW254)⟩
  rw [if_neg c6] at H
  have c6b0 : (t257 == 7) = false := beq_eq_false_iff_ne.mpr c6
  have c6b1 : (t257 != 7) = true := bne_iff_ne.mpr c6
  by_cases c39 : t257 = 0
  ·rw [if_pos c39] at H
   have c39b0 : (t257 == 0) = true := beq_iff_eq.mpr c39
   have c39b1 : (t257 != 0) = false := bne_eq_false_iff_eq.mpr c39
   clear c39
   simp only [Option.some.injEq, Prod.mk.injEq] at H
   obtain ⟨rfl, rfl, rfl, rfl⟩ := H
   go_enter Try.func75, Try.ntmps75
   go_wp2_with (first | ((with_reducible refine gate_dst (N := 2) rfl ?_); (try (refine gate_guard (by rfl) ?_; dsimp only)); refine box_event ?hg (N := 2) ?hd (cs := #[.slice none 0 0, .slice none 0 0, .int .i64 0]) (t := 25) ?hr ?_; (case hd => rfl); (case hg => rfl); (case hr => exact qdk6_23); intro gb245 hg w40 hbox hb; have n0_ := Aside0.mk (IsS94.below qdk6_18 hb); have n1_ := Aside0.mk (KeepBut.trans (qdk6_8 HK) (KeepBut.of_below hb g none) (.inl rfl)); have n2_ := Aside0.mk (below_step (qdk6_17 HB) hb); have n3_ := Aside0.mk (hbox); have n4_ := Aside0.mk ((by rw [hg]; exact (keep_size (w := w) (g := g) (row := none) (qdk6_8 HK)) : w.heap.size ≤ gb245)); have n5_ := Aside0.mk ((Nat.le_trans HW0.out (by rw [hg]; exact (keep_size (w := w) (g := g) (row := none) (qdk6_8 HK)) : w.heap.size ≤ gb245) : w0.heap.size ≤ gb245)); have n6_ := Aside0.mk ((by rw [hg]; exact Nat.ne_of_lt (IsS94.lt (show IsS94 w0 _ g s0_0 s0_1 from by repeat (first | (with_reducible first | exact HI0.out | apply IsS94.alloc | apply IsS94.drewN | apply IsS94.drew | apply IsS94.set_1) | exact HI0.out))) : g ≠ gb245)); have n7_ := Aside0.mk ((by rw [hg]; exact Nat.ne_of_gt (IsS94.lt (show IsS94 w0 _ g s0_0 s0_1 from by repeat (first | (with_reducible first | exact HI0.out | apply IsS94.alloc | apply IsS94.drewN | apply IsS94.drew | apply IsS94.set_1) | exact HI0.out))) : gb245 ≠ g)); clear HI0 HK HB; have HI0 := n0_; have HK := n1_; have HB := n2_; have BK245 := n3_; have GW245 := n4_; have GE245 := n5_; have NB0_245 := n6_; have NB245_0 := n7_; clear n0_ n1_ n2_ n3_ n4_ n5_ n6_ n7_; clear hb hbox hg) | ((with_reducible refine gate_callee (f := 77) rfl ?_); refine goesL_ (some 8) rfl rfl Try.func77 qdk6_13 rfl #[.pointer (some ⟨g, 0, none⟩)] rfl qdk6_7 ?_; (with_reducible refine (spec_l7Draw.calls k g s0_0 s0_1 t246 t249 t252 t253 w0 _ ?side1 ?side2 A2.out).mono ?_); (case side1 => exact (qdk6_11 NB0_245)); (case side2 => exact (qdk6_10 HB GE245)); rintro e w41 ⟨v247, v250, rfl, ho0, ho1, hi, hb, hk⟩; refine ⟨_, rfl, ?_⟩; have n0_ := Aside0.mk (KeepBut.blk hk (g' := gb245) (o := .cells #[.slice none 0 0, .slice none 0 0, .int .i64 0] 25 (0, 0)) (qdk6_1 BK245) NB245_0.out (by simp)); have n1_ := Aside0.mk (Kd.R_lower ho0 (keep_size (w := w) (g := g) (row := none) (qdk6_3 HK GW245))); have n2_ := Aside0.mk (Kd.R_lower ho1 (keep_size (w := w) (g := g) (row := none) (qdk6_3 HK GW245))); have n3_ := Aside0.mk (KeepBut.trans (qdk6_3 HK GW245) hk (.inl rfl)); have n4_ := Aside0.mk (hb); have n5_ := Aside0.mk (hi); clear BK245 HK HB HI0; have BK245 := n0_; have HO248 := n1_; have HO251 := n2_; have HK := n3_; have HB := n4_; have HI0 := n5_; clear n0_ n1_ n2_ n3_ n4_ n5_; (try clear hb); (try clear hb2); (try clear hk); (try clear hi); (try clear ho0); (try clear ho1)) | ((with_reducible refine gate_dst (N := 3) rfl ?_); (try (refine gate_guard (by rfl) ?_; dsimp only)); refine box_event ?hg (N := 3) ?hd (cs := #[.slice none 0 0, .slice none 0 0, .int .i64 0]) (t := 25) ?hr ?_; (case hd => rfl); (case hg => rfl); (case hr => exact qdk6_23); intro gb254 hg w42 hbox hb; have n0_ := Aside0.mk (Kd.R_below (qdk6_4 HO248) hb); have n1_ := Aside0.mk (Kd.R_below (qdk6_4 HO251) hb); have n2_ := Aside0.mk (IsS94.below (qdk6_11 NB0_245) hb); have n3_ := Aside0.mk (blk_below (qdk6_1 BK245) hb); have n4_ := Aside0.mk (KeepBut.trans (qdk6_3 HK GW245) (KeepBut.of_below hb g none) (.inl rfl)); have n5_ := Aside0.mk (below_step (qdk6_10 HB GE245) hb); have n6_ := Aside0.mk (hbox); have n7_ := Aside0.mk ((by rw [hg]; exact (keep_size (w := w) (g := g) (row := none) (qdk6_3 HK GW245)) : w.heap.size ≤ gb254)); have n8_ := Aside0.mk ((Nat.le_trans HW0.out (by rw [hg]; exact (keep_size (w := w) (g := g) (row := none) (qdk6_3 HK GW245)) : w.heap.size ≤ gb254) : w0.heap.size ≤ gb254)); have n9_ := Aside0.mk ((qnl_pdkx6 BK245 hg : gb245 ≠ gb254)); have n10_ := Aside0.mk ((qng_pdkx6 BK245 hg : gb254 ≠ gb245)); have n11_ := Aside0.mk ((by rw [hg]; exact Nat.ne_of_lt (IsS94.lt (show IsS94 w0 _ g s0_0 t253 from by repeat (first | (with_reducible first | exact HI0.out | apply IsS94.alloc | apply IsS94.drewN | apply IsS94.drew | apply IsS94.set_1 | refine IsS94.far ?_ NB0_245.out _) | exact HI0.out))) : g ≠ gb254)); have n12_ := Aside0.mk ((by rw [hg]; exact Nat.ne_of_gt (IsS94.lt (show IsS94 w0 _ g s0_0 t253 from by repeat (first | (with_reducible first | exact HI0.out | apply IsS94.alloc | apply IsS94.drewN | apply IsS94.drew | apply IsS94.set_1 | refine IsS94.far ?_ NB0_245.out _) | exact HI0.out))) : gb254 ≠ g)); clear HO248 HO251 HI0 BK245 HK HB; have HO248 := n0_; have HO251 := n1_; have HI0 := n2_; have BK245 := n3_; have HK := n4_; have HB := n5_; have BK254 := n6_; have GW254 := n7_; have GE254 := n8_; have NB245_254 := n9_; have NB254_245 := n10_; have NB0_254 := n11_; have NB254_0 := n12_; clear n0_ n1_ n2_ n3_ n4_ n5_ n6_ n7_ n8_ n9_ n10_ n11_ n12_; clear hb hbox hg; obtain ⟨Ao43, co43, eo43⟩ := Kd.R_slice HO248.out; subst eo43; have hnb44 := NB254_245.out; have hnc44 := NB245_254.out; have hnb45 := NB254_0.out; have hnc45 := NB0_254.out; have hcz46_0 : w42.cell? ⟨gb254, 0, none⟩ = some (.slice none 0 0) := (blk_cell BK254.out 0).trans rfl; have hcz46_1 : w42.cell? ⟨gb254, 1, none⟩ = some (.slice none 0 0) := (blk_cell BK254.out 1).trans rfl; have hcz46_2 : w42.cell? ⟨gb254, 2, none⟩ = some (.int .i64 0) := (blk_cell BK254.out 2).trans rfl; have hfz46_0 := blk_frozen BK254.out 0; have hfz46_1 := blk_frozen BK254.out 1; have hfz46_2 := blk_frozen BK254.out 2; obtain ⟨Ao47, co47, eo47⟩ := Kd.R_slice HO251.out; subst eo47) | ((with_reducible refine gate_callee (f := 46) rfl ?_); refine goesL_ (some 10) rfl rfl Try.func46 qdk6_13 rfl #[.pointer (some ⟨g, 0, none⟩), .int .i64 4] rfl qdk6_7 ?_; (with_reducible refine (spec_l1Rd_once.calls g s0_0 t253 4 true t256 w0 _ ?side1 ?side2 A3.out).mono ?_); (case side1 => exact (qdk6_6 NB0_245 NB0_254)); (case side2 => exact (qdk6_5 HB GE245 GE254)); rintro e w48 ⟨rfl, hi, hb, hk⟩; refine ⟨_, rfl, ?_⟩; have n0_ := Aside0.mk (KeepBut.blk hk (g' := gb245) (o := .cells #[.slice none 0 0, .slice none 0 0, .int .i64 0] 25 (0, 0)) (qdk6_9 NB245_254 BK245) NB245_0.out (by simp)); have n1_ := Aside0.mk (Kd.R_mono (Kd.R_keep (IsS94.apart (show IsS94 w0 _ g s0_0 t253 from by repeat (first | (with_reducible first | exact HI0.out | apply IsS94.alloc | apply IsS94.drewN | apply IsS94.drew | apply IsS94.set_1 | refine IsS94.far ?_ NB0_245.out _ | refine IsS94.far ?_ NB0_254.out _) | exact HI0.out)) (qdk6_21 HO248 BK254) qdk6_16) hk (fun _ h => h.2)) (fun _ h => h.1)); have n2_ := Aside0.mk (Kd.R_mono (Kd.R_keep (IsS94.apart (show IsS94 w0 _ g s0_0 t253 from by repeat (first | (with_reducible first | exact HI0.out | apply IsS94.alloc | apply IsS94.drewN | apply IsS94.drew | apply IsS94.set_1 | refine IsS94.far ?_ NB0_245.out _ | refine IsS94.far ?_ NB0_254.out _) | exact HI0.out)) (qdk6_21 HO251 BK254) qdk6_16) hk (fun _ h => h.2)) (fun _ h => h.1)); have n3_ := Aside0.mk (KeepBut.blk hk (g' := gb254) (o := .cells #[.slice Ao43 t246.length co43, .slice Ao47 t249.length co47, .int .i64 t252] 25 (0, 0)) (by (with_reducible repeat (first | refine blk_drewN ?_ _ | refine blk_drew ?_ | refine blk_alloc ?_ _)); refine blk_put (cs := #[.slice Ao43 t246.length co43, .slice Ao47 t249.length co47, .int .i64 0]) ?_ 2 _ rfl; (with_reducible repeat (first | refine blk_drewN ?_ _ | refine blk_drew ?_ | refine blk_alloc ?_ _)); refine blk_put (cs := #[.slice Ao43 t246.length co43, .slice none 0 0, .int .i64 0]) ?_ 1 _ rfl; (with_reducible repeat (first | refine blk_drewN ?_ _ | refine blk_drew ?_ | refine blk_alloc ?_ _)); refine blk_put (cs := #[.slice none 0 0, .slice none 0 0, .int .i64 0]) ?_ 0 _ rfl; (with_reducible repeat (first | refine blk_drewN ?_ _ | refine blk_drew ?_ | refine blk_alloc ?_ _)); exact BK254.out) NB254_0.out (by simp)); have n4_ := Aside0.mk (KeepBut.trans (qdk6_2 HK GW245 GW254) hk (.inl rfl)); have n5_ := Aside0.mk (hb); have n6_ := Aside0.mk (hi); clear BK245 HO248 HO251 BK254 HK HB HI0; have BK245 := n0_; have HO248 := n1_; have HO251 := n2_; have BK254 := n3_; have HK := n4_; have HB := n5_; have HI0 := n6_; clear n0_ n1_ n2_ n3_ n4_ n5_ n6_; (try clear hb); (try clear hb2); (try clear hk); (try clear hi)) | ((with_reducible refine gate_callee (f := 47) rfl ?_); refine goesL_ (some 14) rfl rfl Try.func47 qdk6_13 rfl #[.pointer (some ⟨g, 0, none⟩), .int .i64 8] rfl qdk6_7 ?_; (with_reducible refine (spec_l1Rd_below.calls g s0_0 t256 8 t257 t258 w0 _ ?side1 ?side2 A5.out).mono ?_); (case side1 => exact (qdk6_6 NB0_245 NB0_254)); (case side2 => exact (qdk6_5 HB GE245 GE254)); rintro e w49 ⟨rfl, hi, hb, hk⟩; refine ⟨_, rfl, ?_⟩; have n0_ := Aside0.mk (KeepBut.blk hk (g' := gb245) (o := .cells #[.slice none 0 0, .slice none 0 0, .int .i64 0] 25 (0, 0)) (qdk6_1 BK245) NB245_0.out (by simp)); have n1_ := Aside0.mk (Kd.R_mono (Kd.R_keep (IsS94.apart (show IsS94 w0 _ g s0_0 t256 from by repeat (first | (with_reducible first | exact HI0.out | apply IsS94.alloc | apply IsS94.drewN | apply IsS94.drew | apply IsS94.set_1 | refine IsS94.far ?_ NB0_245.out _ | refine IsS94.far ?_ NB0_254.out _) | exact HI0.out)) (qdk6_4 HO248) qdk6_16) hk (fun _ h => h.2)) (fun _ h => h.1)); have n2_ := Aside0.mk (Kd.R_mono (Kd.R_keep (IsS94.apart (show IsS94 w0 _ g s0_0 t256 from by repeat (first | (with_reducible first | exact HI0.out | apply IsS94.alloc | apply IsS94.drewN | apply IsS94.drew | apply IsS94.set_1 | refine IsS94.far ?_ NB0_245.out _ | refine IsS94.far ?_ NB0_254.out _) | exact HI0.out)) (qdk6_4 HO251) qdk6_16) hk (fun _ h => h.2)) (fun _ h => h.1)); have n3_ := Aside0.mk (KeepBut.blk hk (g' := gb254) (o := .cells #[.slice Ao43 t246.length co43, .slice Ao47 t249.length co47, .int .i64 t252] 25 (0, 0)) (qdk6_1 BK254) NB254_0.out (by simp)); have n4_ := Aside0.mk (KeepBut.trans (qdk6_2 HK GW245 GW254) hk (.inl rfl)); have n5_ := Aside0.mk (hb); have n6_ := Aside0.mk (hi); clear BK245 HO248 HO251 BK254 HK HB HI0; have BK245 := n0_; have HO248 := n1_; have HO251 := n2_; have BK254 := n3_; have HK := n4_; have HB := n5_; have HI0 := n6_; clear n0_ n1_ n2_ n3_ n4_ n5_ n6_; (try clear hb); (try clear hb2); (try clear hk); (try clear hi); have hcz50_0 : w49.cell? ⟨gb254, 0, none⟩ = some (.slice Ao43 t246.length co43) := (blk_cell BK254.out 0).trans rfl; have hcz50_1 : w49.cell? ⟨gb254, 1, none⟩ = some (.slice Ao47 t249.length co47) := (blk_cell BK254.out 1).trans rfl; have hcz50_2 : w49.cell? ⟨gb254, 2, none⟩ = some (.int .i64 t252) := (blk_cell BK254.out 2).trans rfl; have hfz50_0 := blk_frozen BK254.out 0; have hfz50_1 := blk_frozen BK254.out 1; have hfz50_2 := blk_frozen BK254.out 2; have hnb51 := NB245_0.out; have hnc51 := NB0_245.out; have hcz52_0 : w49.cell? ⟨gb245, 0, none⟩ = some (.slice none 0 0) := (blk_cell BK245.out 0).trans rfl; have hcz52_1 : w49.cell? ⟨gb245, 1, none⟩ = some (.slice none 0 0) := (blk_cell BK245.out 1).trans rfl; have hcz52_2 : w49.cell? ⟨gb245, 2, none⟩ = some (.int .i64 0) := (blk_cell BK245.out 2).trans rfl; have hfz52_0 := blk_frozen BK245.out 0; have hfz52_1 := blk_frozen BK245.out 1; have hfz52_2 := blk_frozen BK245.out 2))
   refine bodyPost_ret (results_cell_row rfl _ _ gb245 25 #[.slice Ao43 t246.length co43, .slice Ao47 t249.length co47, .int .i64 (wrap64 (t252 + 1))] (0, 0) _ rfl (by (with_reducible repeat (first | refine blk_drewN ?_ _ | refine blk_drew ?_ | refine blk_alloc ?_ _)); refine blk_put (cs := #[.slice Ao43 t246.length co43, .slice Ao47 t249.length co47, .int .i64 0]) ?_ 2 _ rfl; (with_reducible repeat (first | refine blk_drewN ?_ _ | refine blk_drew ?_ | refine blk_alloc ?_ _)); refine blk_put (cs := #[.slice Ao43 t246.length co43, .slice none 0 0, .int .i64 0]) ?_ 1 _ rfl; (with_reducible repeat (first | refine blk_drewN ?_ _ | refine blk_drew ?_ | refine blk_alloc ?_ _)); refine blk_put (cs := #[.slice none 0 0, .slice none 0 0, .int .i64 0]) ?_ 0 _ rfl; (with_reducible repeat (first | refine blk_drewN ?_ _ | refine blk_drew ?_ | refine blk_alloc ?_ _)); refine blk_far ?_ NB245_254.out _; (with_reducible repeat (first | refine blk_drewN ?_ _ | refine blk_drew ?_ | refine blk_alloc ?_ _)); exact BK245.out) Try.underlying25 rfl qdk6_13) rfl ?_
   exact ⟨_, _, rdk6_6, (rdk6_7 HO248 BK254 BK245), (rdk6_7 HO251 BK254 BK245), (rdk6_2 HI0 NB0_245 NB0_254), (rdk6_1 HB HI0 GE245 GE254), (rdk6_3 HK GW245 GW254)⟩
  rw [if_neg c39] at H
  have c39b0 : (t257 == 0) = false := beq_eq_false_iff_ne.mpr c39
  have c39b1 : (t257 != 0) = true := bne_iff_ne.mpr c39
  have HC53 := Aside0.mk H
  clear H
  go_enter Try.func75, Try.ntmps75
  go_upto_region 16 with (first | ((with_reducible refine gate_dst (N := 2) rfl ?_); (try (refine gate_guard (by rfl) ?_; dsimp only)); refine box_event ?hg (N := 2) ?hd (cs := #[.slice none 0 0, .slice none 0 0, .int .i64 0]) (t := 25) ?hr ?_; (case hd => rfl); (case hg => rfl); (case hr => exact qdk6_23); intro gb245 hg w54 hbox hb; have n0_ := Aside0.mk (IsS94.below qdk6_18 hb); have n1_ := Aside0.mk (KeepBut.trans (qdk6_8 HK) (KeepBut.of_below hb g none) (.inl rfl)); have n2_ := Aside0.mk (below_step (qdk6_17 HB) hb); have n3_ := Aside0.mk (hbox); have n4_ := Aside0.mk ((by rw [hg]; exact (keep_size (w := w) (g := g) (row := none) (qdk6_8 HK)) : w.heap.size ≤ gb245)); have n5_ := Aside0.mk ((Nat.le_trans HW0.out (by rw [hg]; exact (keep_size (w := w) (g := g) (row := none) (qdk6_8 HK)) : w.heap.size ≤ gb245) : w0.heap.size ≤ gb245)); have n6_ := Aside0.mk ((by rw [hg]; exact Nat.ne_of_lt (IsS94.lt (show IsS94 w0 _ g s0_0 s0_1 from by repeat (first | (with_reducible first | exact HI0.out | apply IsS94.alloc | apply IsS94.drewN | apply IsS94.drew | apply IsS94.set_1) | exact HI0.out))) : g ≠ gb245)); have n7_ := Aside0.mk ((by rw [hg]; exact Nat.ne_of_gt (IsS94.lt (show IsS94 w0 _ g s0_0 s0_1 from by repeat (first | (with_reducible first | exact HI0.out | apply IsS94.alloc | apply IsS94.drewN | apply IsS94.drew | apply IsS94.set_1) | exact HI0.out))) : gb245 ≠ g)); clear HI0 HK HB; have HI0 := n0_; have HK := n1_; have HB := n2_; have BK245 := n3_; have GW245 := n4_; have GE245 := n5_; have NB0_245 := n6_; have NB245_0 := n7_; clear n0_ n1_ n2_ n3_ n4_ n5_ n6_ n7_; clear hb hbox hg) | ((with_reducible refine gate_callee (f := 77) rfl ?_); refine goesL_ (some 8) rfl rfl Try.func77 qdk6_13 rfl #[.pointer (some ⟨g, 0, none⟩)] rfl qdk6_7 ?_; (with_reducible refine (spec_l7Draw.calls k g s0_0 s0_1 t246 t249 t252 t253 w0 _ ?side1 ?side2 A2.out).mono ?_); (case side1 => exact (qdk6_11 NB0_245)); (case side2 => exact (qdk6_10 HB GE245)); rintro e w55 ⟨v247, v250, rfl, ho0, ho1, hi, hb, hk⟩; refine ⟨_, rfl, ?_⟩; have n0_ := Aside0.mk (KeepBut.blk hk (g' := gb245) (o := .cells #[.slice none 0 0, .slice none 0 0, .int .i64 0] 25 (0, 0)) (qdk6_1 BK245) NB245_0.out (by simp)); have n1_ := Aside0.mk (Kd.R_lower ho0 (keep_size (w := w) (g := g) (row := none) (qdk6_3 HK GW245))); have n2_ := Aside0.mk (Kd.R_lower ho1 (keep_size (w := w) (g := g) (row := none) (qdk6_3 HK GW245))); have n3_ := Aside0.mk (KeepBut.trans (qdk6_3 HK GW245) hk (.inl rfl)); have n4_ := Aside0.mk (hb); have n5_ := Aside0.mk (hi); clear BK245 HK HB HI0; have BK245 := n0_; have HO248 := n1_; have HO251 := n2_; have HK := n3_; have HB := n4_; have HI0 := n5_; clear n0_ n1_ n2_ n3_ n4_ n5_; (try clear hb); (try clear hb2); (try clear hk); (try clear hi); (try clear ho0); (try clear ho1)) | ((with_reducible refine gate_dst (N := 3) rfl ?_); (try (refine gate_guard (by rfl) ?_; dsimp only)); refine box_event ?hg (N := 3) ?hd (cs := #[.slice none 0 0, .slice none 0 0, .int .i64 0]) (t := 25) ?hr ?_; (case hd => rfl); (case hg => rfl); (case hr => exact qdk6_23); intro gb254 hg w56 hbox hb; have n0_ := Aside0.mk (Kd.R_below (qdk6_4 HO248) hb); have n1_ := Aside0.mk (Kd.R_below (qdk6_4 HO251) hb); have n2_ := Aside0.mk (IsS94.below (qdk6_11 NB0_245) hb); have n3_ := Aside0.mk (blk_below (qdk6_1 BK245) hb); have n4_ := Aside0.mk (KeepBut.trans (qdk6_3 HK GW245) (KeepBut.of_below hb g none) (.inl rfl)); have n5_ := Aside0.mk (below_step (qdk6_10 HB GE245) hb); have n6_ := Aside0.mk (hbox); have n7_ := Aside0.mk ((by rw [hg]; exact (keep_size (w := w) (g := g) (row := none) (qdk6_3 HK GW245)) : w.heap.size ≤ gb254)); have n8_ := Aside0.mk ((Nat.le_trans HW0.out (by rw [hg]; exact (keep_size (w := w) (g := g) (row := none) (qdk6_3 HK GW245)) : w.heap.size ≤ gb254) : w0.heap.size ≤ gb254)); have n9_ := Aside0.mk ((qnl_pdkx6 BK245 hg : gb245 ≠ gb254)); have n10_ := Aside0.mk ((qng_pdkx6 BK245 hg : gb254 ≠ gb245)); have n11_ := Aside0.mk ((by rw [hg]; exact Nat.ne_of_lt (IsS94.lt (show IsS94 w0 _ g s0_0 t253 from by repeat (first | (with_reducible first | exact HI0.out | apply IsS94.alloc | apply IsS94.drewN | apply IsS94.drew | apply IsS94.set_1 | refine IsS94.far ?_ NB0_245.out _) | exact HI0.out))) : g ≠ gb254)); have n12_ := Aside0.mk ((by rw [hg]; exact Nat.ne_of_gt (IsS94.lt (show IsS94 w0 _ g s0_0 t253 from by repeat (first | (with_reducible first | exact HI0.out | apply IsS94.alloc | apply IsS94.drewN | apply IsS94.drew | apply IsS94.set_1 | refine IsS94.far ?_ NB0_245.out _) | exact HI0.out))) : gb254 ≠ g)); clear HO248 HO251 HI0 BK245 HK HB; have HO248 := n0_; have HO251 := n1_; have HI0 := n2_; have BK245 := n3_; have HK := n4_; have HB := n5_; have BK254 := n6_; have GW254 := n7_; have GE254 := n8_; have NB245_254 := n9_; have NB254_245 := n10_; have NB0_254 := n11_; have NB254_0 := n12_; clear n0_ n1_ n2_ n3_ n4_ n5_ n6_ n7_ n8_ n9_ n10_ n11_ n12_; clear hb hbox hg; obtain ⟨Ao57, co57, eo57⟩ := Kd.R_slice HO248.out; subst eo57; have hnb58 := NB254_245.out; have hnc58 := NB245_254.out; have hnb59 := NB254_0.out; have hnc59 := NB0_254.out; have hcz60_0 : w56.cell? ⟨gb254, 0, none⟩ = some (.slice none 0 0) := (blk_cell BK254.out 0).trans rfl; have hcz60_1 : w56.cell? ⟨gb254, 1, none⟩ = some (.slice none 0 0) := (blk_cell BK254.out 1).trans rfl; have hcz60_2 : w56.cell? ⟨gb254, 2, none⟩ = some (.int .i64 0) := (blk_cell BK254.out 2).trans rfl; have hfz60_0 := blk_frozen BK254.out 0; have hfz60_1 := blk_frozen BK254.out 1; have hfz60_2 := blk_frozen BK254.out 2; obtain ⟨Ao61, co61, eo61⟩ := Kd.R_slice HO251.out; subst eo61) | ((with_reducible refine gate_callee (f := 46) rfl ?_); refine goesL_ (some 10) rfl rfl Try.func46 qdk6_13 rfl #[.pointer (some ⟨g, 0, none⟩), .int .i64 4] rfl qdk6_7 ?_; (with_reducible refine (spec_l1Rd_once.calls g s0_0 t253 4 true t256 w0 _ ?side1 ?side2 A3.out).mono ?_); (case side1 => exact (qdk6_6 NB0_245 NB0_254)); (case side2 => exact (qdk6_5 HB GE245 GE254)); rintro e w62 ⟨rfl, hi, hb, hk⟩; refine ⟨_, rfl, ?_⟩; have n0_ := Aside0.mk (KeepBut.blk hk (g' := gb245) (o := .cells #[.slice none 0 0, .slice none 0 0, .int .i64 0] 25 (0, 0)) (qdk6_9 NB245_254 BK245) NB245_0.out (by simp)); have n1_ := Aside0.mk (Kd.R_mono (Kd.R_keep (IsS94.apart (show IsS94 w0 _ g s0_0 t253 from by repeat (first | (with_reducible first | exact HI0.out | apply IsS94.alloc | apply IsS94.drewN | apply IsS94.drew | apply IsS94.set_1 | refine IsS94.far ?_ NB0_245.out _ | refine IsS94.far ?_ NB0_254.out _) | exact HI0.out)) (qdk6_22 HO248 BK254) qdk6_16) hk (fun _ h => h.2)) (fun _ h => h.1)); have n2_ := Aside0.mk (Kd.R_mono (Kd.R_keep (IsS94.apart (show IsS94 w0 _ g s0_0 t253 from by repeat (first | (with_reducible first | exact HI0.out | apply IsS94.alloc | apply IsS94.drewN | apply IsS94.drew | apply IsS94.set_1 | refine IsS94.far ?_ NB0_245.out _ | refine IsS94.far ?_ NB0_254.out _) | exact HI0.out)) (qdk6_22 HO251 BK254) qdk6_16) hk (fun _ h => h.2)) (fun _ h => h.1)); have n3_ := Aside0.mk (KeepBut.blk hk (g' := gb254) (o := .cells #[.slice Ao57 t246.length co57, .slice Ao61 t249.length co61, .int .i64 t252] 25 (0, 0)) (by (with_reducible repeat (first | refine blk_drewN ?_ _ | refine blk_drew ?_ | refine blk_alloc ?_ _)); refine blk_put (cs := #[.slice Ao57 t246.length co57, .slice Ao61 t249.length co61, .int .i64 0]) ?_ 2 _ rfl; (with_reducible repeat (first | refine blk_drewN ?_ _ | refine blk_drew ?_ | refine blk_alloc ?_ _)); refine blk_put (cs := #[.slice Ao57 t246.length co57, .slice none 0 0, .int .i64 0]) ?_ 1 _ rfl; (with_reducible repeat (first | refine blk_drewN ?_ _ | refine blk_drew ?_ | refine blk_alloc ?_ _)); refine blk_put (cs := #[.slice none 0 0, .slice none 0 0, .int .i64 0]) ?_ 0 _ rfl; (with_reducible repeat (first | refine blk_drewN ?_ _ | refine blk_drew ?_ | refine blk_alloc ?_ _)); exact BK254.out) NB254_0.out (by simp)); have n4_ := Aside0.mk (KeepBut.trans (qdk6_2 HK GW245 GW254) hk (.inl rfl)); have n5_ := Aside0.mk (hb); have n6_ := Aside0.mk (hi); clear BK245 HO248 HO251 BK254 HK HB HI0; have BK245 := n0_; have HO248 := n1_; have HO251 := n2_; have BK254 := n3_; have HK := n4_; have HB := n5_; have HI0 := n6_; clear n0_ n1_ n2_ n3_ n4_ n5_ n6_; (try clear hb); (try clear hb2); (try clear hk); (try clear hi)) | ((with_reducible refine gate_callee (f := 47) rfl ?_); refine goesL_ (some 14) rfl rfl Try.func47 qdk6_13 rfl #[.pointer (some ⟨g, 0, none⟩), .int .i64 8] rfl qdk6_7 ?_; (with_reducible refine (spec_l1Rd_below.calls g s0_0 t256 8 t257 t258 w0 _ ?side1 ?side2 A5.out).mono ?_); (case side1 => exact (qdk6_6 NB0_245 NB0_254)); (case side2 => exact (qdk6_5 HB GE245 GE254)); rintro e w63 ⟨rfl, hi, hb, hk⟩; refine ⟨_, rfl, ?_⟩; have n0_ := Aside0.mk (KeepBut.blk hk (g' := gb245) (o := .cells #[.slice none 0 0, .slice none 0 0, .int .i64 0] 25 (0, 0)) (qdk6_1 BK245) NB245_0.out (by simp)); have n1_ := Aside0.mk (Kd.R_mono (Kd.R_keep (IsS94.apart (show IsS94 w0 _ g s0_0 t256 from by repeat (first | (with_reducible first | exact HI0.out | apply IsS94.alloc | apply IsS94.drewN | apply IsS94.drew | apply IsS94.set_1 | refine IsS94.far ?_ NB0_245.out _ | refine IsS94.far ?_ NB0_254.out _) | exact HI0.out)) (qdk6_4 HO248) qdk6_16) hk (fun _ h => h.2)) (fun _ h => h.1)); have n2_ := Aside0.mk (Kd.R_mono (Kd.R_keep (IsS94.apart (show IsS94 w0 _ g s0_0 t256 from by repeat (first | (with_reducible first | exact HI0.out | apply IsS94.alloc | apply IsS94.drewN | apply IsS94.drew | apply IsS94.set_1 | refine IsS94.far ?_ NB0_245.out _ | refine IsS94.far ?_ NB0_254.out _) | exact HI0.out)) (qdk6_4 HO251) qdk6_16) hk (fun _ h => h.2)) (fun _ h => h.1)); have n3_ := Aside0.mk (KeepBut.blk hk (g' := gb254) (o := .cells #[.slice Ao57 t246.length co57, .slice Ao61 t249.length co61, .int .i64 t252] 25 (0, 0)) (qdk6_1 BK254) NB254_0.out (by simp)); have n4_ := Aside0.mk (KeepBut.trans (qdk6_2 HK GW245 GW254) hk (.inl rfl)); have n5_ := Aside0.mk (hb); have n6_ := Aside0.mk (hi); clear BK245 HO248 HO251 BK254 HK HB HI0; have BK245 := n0_; have HO248 := n1_; have HO251 := n2_; have BK254 := n3_; have HK := n4_; have HB := n5_; have HI0 := n6_; clear n0_ n1_ n2_ n3_ n4_ n5_ n6_; (try clear hb); (try clear hb2); (try clear hk); (try clear hi)))
  (try simp only [Act.put, List.setIfInBounds_toArray, List.set_cons_zero, List.set_cons_succ])
  go_cut [69] (fun v69 wc => ∃ (kq : Nat) (x69_52 : Bool), v69 = .bool x69_52 ∧ Aside0 (spec_l7DrawAny.j1 kq t257 x69_52 s0_0 t258 t246 t249 t252 = some (r1, r2, r3, r4)) ∧ Aside0 (kq ≤ k) ∧ Aside0 (Kd.R (Kd.int .i64) 2 wc w.heap.size (fun _ => True) (.slice Ao57 t246.length co57) t246) ∧ Aside0 (Kd.R k62 62 wc w.heap.size (fun _ => True) (.slice Ao61 t249.length co61) t249) ∧ Aside0 (wc.heap[gb245]? = some (.cells #[(.slice none 0 0), (.slice none 0 0), .int .i64 0] 25 (0, 0))) ∧ Aside0 (wc.heap[gb254]? = some (.cells #[(.slice Ao57 t246.length co57), (.slice Ao61 t249.length co61), .int .i64 t252] 25 (0, 0))) ∧ Aside0 (IsS94 w0 wc g s0_0 t258) ∧ Aside0 (KeepBut w wc g none) ∧ Aside0 (Below w0.heap.size w0 wc))
  case first =>
   have H := HC53.out
   clear HC53
   by_cases c64 : t257 = 1
   ·rw [if_pos c64] at H
    have c64b0 : (t257 == 1) = true := beq_iff_eq.mpr c64
    have c64b1 : (t257 != 1) = false := bne_eq_false_iff_eq.mpr c64
    clear c64
    (first | rw [c64b0] | (simp only [i64_w, i32_w]; rw [c64b0]) | skip)
    have H' := Aside0.mk H
    clear H
    have hnb65 := NB254_245.out
    have hnc65 := NB245_254.out
    have hnb66 := NB254_0.out
    have hnc66 := NB0_254.out
    have hcz67_0 : w63.cell? ⟨gb254, 0, none⟩ = some (.slice Ao57 t246.length co57) := (blk_cell BK254.out 0).trans rfl
    have hcz67_1 : w63.cell? ⟨gb254, 1, none⟩ = some (.slice Ao61 t249.length co61) := (blk_cell BK254.out 1).trans rfl
    have hcz67_2 : w63.cell? ⟨gb254, 2, none⟩ = some (.int .i64 t252) := (blk_cell BK254.out 2).trans rfl
    have hfz67_0 := blk_frozen BK254.out 0
    have hfz67_1 := blk_frozen BK254.out 1
    have hfz67_2 := blk_frozen BK254.out 2
    go_wp2
    go_meet
    case rel => exact ⟨_, (decide ((t249.length : Int) > 0)), qdk6_25, H', ⟨(by first | omega | exact Nat.le_refl _)⟩, ⟨(rdk6_5 HO248)⟩, ⟨(rdk6_5 HO251)⟩, ⟨(rdk6_4 BK245)⟩, ⟨(rdk6_4 BK254)⟩, ⟨(rdk6_2 HI0 NB0_245 NB0_254)⟩, ⟨(rdk6_3 HK GW245 GW254)⟩, ⟨(rdk6_1 HB HI0 GE245 GE254)⟩⟩
   rw [if_neg c64] at H
   have c64b0 : (t257 == 1) = false := beq_eq_false_iff_ne.mpr c64
   have c64b1 : (t257 != 1) = true := bne_iff_ne.mpr c64
   (first | rw [c64b0] | (simp only [i64_w, i32_w]; rw [c64b0]) | skip)
   have H' := Aside0.mk H
   clear H
   go_wp2
   go_meet
   case rel => exact ⟨_, (false), qdk6_25, H', ⟨(by first | omega | exact Nat.le_refl _)⟩, ⟨(rdk6_5 HO248)⟩, ⟨(rdk6_5 HO251)⟩, ⟨(rdk6_4 BK245)⟩, ⟨(rdk6_4 BK254)⟩, ⟨(rdk6_2 HI0 NB0_245 NB0_254)⟩, ⟨(rdk6_3 HK GW245 GW254)⟩, ⟨(rdk6_1 HB HI0 GE245 GE254)⟩⟩
  case rest =>
   clear HC53
   obtain ⟨kq, x69_52, rfl, HA, HJ52, HO_255000, HO_255001, BK245, BK254, HI0, HK, HB⟩ := hcut
   cases kq with
   | zero => exact absurd HA.out (by simp [spec_l7DrawAny.j1])
   | succ kj52 =>
    have H := HA.out
    clear HA
    simp only [spec_l7DrawAny.j1] at H
    by_cases c68 : x69_52 = true
    ·subst c68
     have H1 : ((spec_l1Rd_below.f s0_0 t258 (t249.length : Int)).bind fun bt267 => ((spec_l1Rd_below.f s0_0 bt267.2 30).bind fun bt269 => (if 0 ≤ bt267.1 then (if bt267.1 < (t249.length : Int) then (some (t246, (t249.set (bt267.1 : Int).toNat (⟨(rd_T62 t249 bt267.1).f0, bt269.1, (rd_T62 t249 bt267.1).f2, (rd_T62 t249 bt267.1).f3⟩ : S62)), t252, bt269.2)) else (none)) else (none)))) = some (r1, r2, r3, r4) := by rw [if_pos rfl] at H; exact H
     clear H
     have H := H1
     clear H1
     replace H := Option.bind_eq_some_iff.mp H
     obtain ⟨⟨t267, t268⟩, A690, H⟩ := H
     replace H : ((spec_l1Rd_below.f s0_0 t268 30).bind fun bt269 => (if 0 ≤ t267 then (if t267 < (t249.length : Int) then (some (t246, (t249.set (t267 : Int).toNat (⟨(rd_T62 t249 t267).f0, bt269.1, (rd_T62 t249 t267).f2, (rd_T62 t249 t267).f3⟩ : S62)), t252, bt269.2)) else (none)) else (none))) = some (r1, r2, r3, r4) := H
     have A69 := Aside0.mk A690
     clear A690
     replace H := Option.bind_eq_some_iff.mp H
     obtain ⟨⟨t269, t270⟩, A700, H⟩ := H
     replace H : (if 0 ≤ t267 then (if t267 < (t249.length : Int) then (some (t246, (t249.set (t267 : Int).toNat (⟨(rd_T62 t249 t267).f0, t269, (rd_T62 t249 t267).f2, (rd_T62 t249 t267).f3⟩ : S62)), t252, t270)) else (none)) else (none)) = some (r1, r2, r3, r4) := H
     have A70 := Aside0.mk A700
     clear A700
     by_cases c71 : 0 ≤ t267
     ·rw [if_pos c71] at H
      have c71b0 : decide (0 ≤ t267) = true := decide_eq_true c71
      clear c71
      by_cases c72 : t267 < (t249.length : Int)
      ·rw [if_pos c72] at H
       have c72b0 : decide (t267 < (t249.length : Int)) = true := decide_eq_true c72
       clear c72
       obtain ⟨y271, hy271⟩ : ∃ y_ : List (S62), y_ = (t249.set (t267 : Int).toNat (⟨(rd_T62 t249 t267).f0, t269, (rd_T62 t249 t267).f2, (rd_T62 t249 t267).f3⟩ : S62)) := ⟨_, rfl⟩
       replace H : (some (t246, y271, t252, t270)) = some (r1, r2, r3, r4) := by first | (rw [hy271]; with_reducible exact H) | (have H2_ := (Option.bind_some _ _).symm.trans H; rw [hy271]; with_reducible exact H2_) | (have H2_ := (Option.bind_some _ _).symm.trans H; with_reducible exact H2_) | with_reducible exact H | (rw [hy271]; exact H) | exact H
       have Ny271 := Aside0.mk hy271
       clear hy271
       simp only [Option.some.injEq, Prod.mk.injEq] at H
       obtain ⟨rfl, rfl, rfl, rfl⟩ := H
       try go_wp2
       have n0_ := Aside0.mk (Kd.R_drew HO_255000.out)
       have n1_ := Aside0.mk (Kd.R_drew HO_255001.out)
       have n2_ := Aside0.mk (blk_drew BK245.out)
       have n3_ := Aside0.mk (blk_drew BK254.out)
       have n4_ := Aside0.mk (IsS94.drew HI0.out)
       have n5_ := Aside0.mk (keep_drew HK.out)
       have n6_ := Aside0.mk (below_drew1 HB.out)
       clear HO_255000 HO_255001 BK245 BK254 HI0 HK HB
       have HO_255000 := n0_
       have HO_255001 := n1_
       have BK245 := n2_
       have BK254 := n3_
       have HI0 := n4_
       have HK := n5_
       have HB := n6_
       clear n0_ n1_ n2_ n3_ n4_ n5_ n6_
       refine start_ (n := 12) (S := fun w' => w'.cell? ⟨gb254, 0, none⟩ = some (.slice Ao57 t246.length co57) ∧ w'.cell? ⟨gb254, 1, none⟩ = some (.slice Ao61 t249.length co61) ∧ w'.cell? ⟨gb254, 2, none⟩ = some (.int .i64 t252)) (ds := [11]) (bs_ 12 0) qdk6_13 rfl rfl ⟨(blk_cell BK254.out 0).trans rfl, (blk_cell BK254.out 1).trans rfl, (blk_cell BK254.out 2).trans rfl⟩ (fun hHeld => ?_); refine with_tabW spec_l7DrawAny.tab17 spec_l7DrawAny.bits17 (fun HT_ HW_ => ?_)
       generalize wc.drew = w74 at HO_255000 HO_255001 BK245 BK254 HI0 HK HB hHeld ⊢
       refine pure_ (i := 0) (N := some 70) (bs_ 12 1) rfl rfl (any_of HT_.out qdk6_13) (fun _ _ _ h => h) (Or.inl ⟨by rfl, qpy_pdkx6⟩) qpa_pdkx6 ?_
       refine pure_ (i := 2) (N := some 72) (bs_ 12 5) rfl rfl (any_of HT_.out qdk6_13) (fun _ _ _ h => h) (Or.inl ⟨by rfl, qpy_pdkx6⟩) qpa_pdkx6 ?_
       refine pure_ (i := 3) (N := some 73) (bs_ 12 13) rfl rfl (any_of HT_.out qdk6_13) (fun _ _ _ h => h) (Or.inl ⟨by rfl, qpy_pdkx6⟩) qpa_pdkx6 ?_
       refine pure_ (i := 7) (N := some 77) (bs_ 12 141) rfl rfl (any_of HT_.out qdk6_13) (fun _ _ _ h => h) (Or.inl ⟨by rfl, qpy_pdkx6⟩) qpa_pdkx6 ?_
       refine take_ (i := 1) (N := some 71) (bs_ 12 143) rfl rfl (take_ofW HT_.out HW_.out qdk6_13) (fun _ _ _ h => h) (Or.inl ⟨by rfl, qpt3_pdkx6⟩) hHeld qpa_pdkx6 ?_
       refine take_ (i := 4) (N := some 74) (bs_ 12 159) rfl rfl (take_ofW HT_.out HW_.out qdk6_13) (fun _ _ _ h => h) (Or.inl ⟨by rfl, qpt3_pdkx6⟩) hHeld qpa_pdkx6 ?_
       refine pure_ (i := 5) (N := some 75) (bs_ 12 191) rfl rfl (any_of HT_.out qdk6_13) (fun _ _ _ h => h) (Or.inl ⟨by rfl, qpy_pdkx6⟩) qpa_pdkx6 ?_
       refine one_ (i := 6) (N := some 76) (bs_ 12 255) rfl rfl (one_of HT_.out qdk6_13) qdk6_16 (fun K hK => ?_)
       refine goes_ Try.func47 qdk6_13 rfl #[.pointer (some ⟨g, 0, none⟩), .int .i64 (t249.length : Int)] (by rfl) rfl rfl qdk6_7 ?_
       with_reducible refine (spec_l1Rd_below.calls g s0_0 t258 (t249.length : Int) t267 t268 w0 _ ?side1 ?side2 A69.out).mono ?_
       (case side1 => exact (qdk6_6 NB0_245 NB0_254))
       (case side2 => exact (qdk6_5 HB GE245 GE254))
       rintro e w75 ⟨rfl, hi, hb, hk⟩
       refine ⟨_, rfl, ?_⟩
       have n0_ := Aside0.mk (Kd.R_mono (Kd.R_keep (IsS94.apart (show IsS94 w0 _ g s0_0 t258 from by repeat (first | (with_reducible first | exact HI0.out | apply IsS94.alloc | apply IsS94.drewN | apply IsS94.drew | apply IsS94.set_1 | refine IsS94.far ?_ NB0_245.out _ | refine IsS94.far ?_ NB0_254.out _) | exact HI0.out)) (qdk6_4 HO_255000) qdk6_16) hk (fun _ h => h.2)) (fun _ h => h.1))
       have n1_ := Aside0.mk (Kd.R_mono (Kd.R_keep (IsS94.apart (show IsS94 w0 _ g s0_0 t258 from by repeat (first | (with_reducible first | exact HI0.out | apply IsS94.alloc | apply IsS94.drewN | apply IsS94.drew | apply IsS94.set_1 | refine IsS94.far ?_ NB0_245.out _ | refine IsS94.far ?_ NB0_254.out _) | exact HI0.out)) (qdk6_4 HO_255001) qdk6_16) hk (fun _ h => h.2)) (fun _ h => h.1))
       have n2_ := Aside0.mk (KeepBut.blk hk (g' := gb245) (o := .cells #[.slice none 0 0, .slice none 0 0, .int .i64 0] 25 (0, 0)) (qdk6_1 BK245) NB245_0.out (by simp))
       have n3_ := Aside0.mk (KeepBut.blk hk (g' := gb254) (o := .cells #[.slice Ao57 t246.length co57, .slice Ao61 t249.length co61, .int .i64 t252] 25 (0, 0)) (qdk6_1 BK254) NB254_0.out (by simp))
       have n4_ := Aside0.mk (KeepBut.trans (qdk6_2 HK GW245 GW254) hk (.inl rfl))
       have n5_ := Aside0.mk (hb)
       have n6_ := Aside0.mk (hi)
       clear HO_255000 HO_255001 BK245 BK254 HK HB HI0
       have HO_255000 := n0_
       have HO_255001 := n1_
       have BK245 := n2_
       have BK254 := n3_
       have HK := n4_
       have HB := n5_
       have HI0 := n6_
       clear n0_ n1_ n2_ n3_ n4_ n5_ n6_
       (try clear hb)
       (try clear hb2)
       (try clear hk)
       (try clear hi)
       refine hK.out _ _ ⟨(blk_cell BK254.out 0).trans rfl, (blk_cell BK254.out 1).trans rfl, (blk_cell BK254.out 2).trans rfl⟩ (fun hHeld => ?_)
       clear hK K
       refine norm_ (a' := ?_) ?_ ?_
       rotate_left
       ·show Act.put _ (some 76) _ = _
        simp only [Act.put, List.setIfInBounds_toArray, List.set_cons_zero, List.set_cons_succ, i64_w, i32_w]
        rfl
       refine one_ (i := 8) (N := some 78) (bs_ 12 511) rfl rfl (one_of HT_.out qdk6_13) qdk6_16 (fun K hK => ?_)
       refine goes_ Try.func47 qdk6_13 rfl #[.pointer (some ⟨g, 0, none⟩), .int .i64 30] (by rfl) rfl rfl qdk6_7 ?_
       with_reducible refine (spec_l1Rd_below.calls g s0_0 t268 30 t269 t270 w0 _ ?side1 ?side2 A70.out).mono ?_
       (case side1 => exact (qdk6_6 NB0_245 NB0_254))
       (case side2 => exact (qdk6_5 HB GE245 GE254))
       rintro e w76 ⟨rfl, hi, hb, hk⟩
       refine ⟨_, rfl, ?_⟩
       have n0_ := Aside0.mk (Kd.R_mono (Kd.R_keep (IsS94.apart (show IsS94 w0 _ g s0_0 t268 from by repeat (first | (with_reducible first | exact HI0.out | apply IsS94.alloc | apply IsS94.drewN | apply IsS94.drew | apply IsS94.set_1 | refine IsS94.far ?_ NB0_245.out _ | refine IsS94.far ?_ NB0_254.out _) | exact HI0.out)) (qdk6_4 HO_255000) qdk6_16) hk (fun _ h => h.2)) (fun _ h => h.1))
       have n1_ := Aside0.mk (Kd.R_mono (Kd.R_keep (IsS94.apart (show IsS94 w0 _ g s0_0 t268 from by repeat (first | (with_reducible first | exact HI0.out | apply IsS94.alloc | apply IsS94.drewN | apply IsS94.drew | apply IsS94.set_1 | refine IsS94.far ?_ NB0_245.out _ | refine IsS94.far ?_ NB0_254.out _) | exact HI0.out)) (qdk6_4 HO_255001) qdk6_16) hk (fun _ h => h.2)) (fun _ h => h.1))
       have n2_ := Aside0.mk (KeepBut.blk hk (g' := gb245) (o := .cells #[.slice none 0 0, .slice none 0 0, .int .i64 0] 25 (0, 0)) (qdk6_1 BK245) NB245_0.out (by simp))
       have n3_ := Aside0.mk (KeepBut.blk hk (g' := gb254) (o := .cells #[.slice Ao57 t246.length co57, .slice Ao61 t249.length co61, .int .i64 t252] 25 (0, 0)) (qdk6_1 BK254) NB254_0.out (by simp))
       have n4_ := Aside0.mk (KeepBut.trans (qdk6_2 HK GW245 GW254) hk (.inl rfl))
       have n5_ := Aside0.mk (hb)
       have n6_ := Aside0.mk (hi)
       clear HO_255000 HO_255001 BK245 BK254 HK HB HI0
       have HO_255000 := n0_
       have HO_255001 := n1_
       have BK245 := n2_
       have BK254 := n3_
       have HK := n4_
       have HB := n5_
       have HI0 := n6_
       clear n0_ n1_ n2_ n3_ n4_ n5_ n6_
       (try clear hb)
       (try clear hb2)
       (try clear hk)
       (try clear hi)
       have p73 : 0 ≤ (t267 : Int) := of_decide_eq_true qdk6_14
       have q73 : (t267 : Int) < ((t249.length : Int) : Int) := of_decide_eq_true qdk6_14
       obtain ⟨go73, co73, eo73, gb73, gl73, cl73, HG73⟩ := Kd.R_form HO_255001.out (by omega)
       (first | cases eo73 | (injection eo73 with ea_ en_ ec_; (first | subst ea_ | (injection ea_ with ea_; subst ea_)); subst ec_; clear en_))
       have GB73 := Aside0.mk gb73
       have GG73 := Aside0.mk HG73
       clear gb73 gl73 HG73
       obtain ⟨ce73, hcl73, hM73, hcc73, hfr73⟩ := Kd.R_elem HO_255001.out z62 (t267 : Int) p73 q73
       obtain rfl := k62_openM hM73
       have hx73_0 : World.cell? _ ⟨go73, (t267 : Int).toNat * 4, none⟩ = some (.int .u64 ((rd_T62 t249 t267).f0)) := hcc73 0 _ rfl
       have hx73_1 : World.cell? _ ⟨go73, (t267 : Int).toNat * 4 + 1, none⟩ = some (.int .i64 ((rd_T62 t249 t267).f1)) := hcc73 1 _ rfl
       have hx73_2 : World.cell? _ ⟨go73, (t267 : Int).toNat * 4 + 2, none⟩ = some (.int .i64 ((rd_T62 t249 t267).f2)) := hcc73 2 _ rfl
       have hx73_3 : World.cell? _ ⟨go73, (t267 : Int).toNat * 4 + 3, none⟩ = some (.bool ((rd_T62 t249 t267).f3)) := hcc73 3 _ rfl
       have hf73_0 : World.frozen? _ ⟨go73, (t267 : Int).toNat * 4, none⟩ = false := hfr73 0
       have hf73_1 : World.frozen? _ ⟨go73, (t267 : Int).toNat * 4 + 1, none⟩ = false := hfr73 1
       have hf73_2 : World.frozen? _ ⟨go73, (t267 : Int).toNat * 4 + 2, none⟩ = false := hfr73 2
       have hf73_3 : World.frozen? _ ⟨go73, (t267 : Int).toNat * 4 + 3, none⟩ = false := hfr73 3
       clear hcl73 hcc73 hfr73 hM73
       replace p73 := eq_true p73
       replace q73 := eq_true q73
       have HN0_go73 := Aside0.mk (show g ≠ go73 from by have h_ := IsS94.own_ne HI0.out HO_255001.out qdk6_16; intro e_; exact h_ (by rw [e_]; rfl))
       obtain ⟨ce77, hcl77, hM77, hcc77, hfr77⟩ := Kd.R_elem HO_255001.out z62 (t267 : Int) (of_decide_eq_true qdk6_14) (by have h_ : (t267 : Int) < ((t249.length : Int) : Int) := of_decide_eq_true qdk6_14; first | exact h_ | (have e_ := (Kd.R_reads' HO_255001.out).1; omega) | simpa using h_)
       obtain rfl := k62_openM hM77
       have HP77 := (Kd.R_seg HO_255001.out (t267 : Int) (of_decide_eq_true qdk6_14) (by have h_ : (t267 : Int) < ((t249.length : Int) : Int) := of_decide_eq_true qdk6_14; first | exact h_ | (have e_ := (Kd.R_reads' HO_255001.out).1; omega) | simpa using h_) (seg := [.int .i64 t269]) (j := 1) hcl77 hcc77 (show 2 ≤ 4 from by decide) (x' := (⟨(rd_T62 t249 t267).f0, t269, (rd_T62 t249 t267).f2, (rd_T62 t249 t267).f3⟩ : S62)) (k62_mkM _ _ _ (⟨(rd_T62 t249 t267).f0, t269, (rd_T62 t249 t267).f2, (rd_T62 t249 t267).f3⟩ : S62) ) (fun _ hk => hk)).1
       rw [← Ny271.out] at HP77
       have HQ77 := Aside0.mk HP77
       clear hcl77 hcc77 hfr77 hM77 HP77
       refine hK.out _ _ ⟨(blk_cell BK254.out 0).trans rfl, (blk_cell BK254.out 1).trans rfl, (blk_cell BK254.out 2).trans rfl⟩ (fun hHeld => ?_)
       clear hK K
       refine norm_ (a' := ?_) ?_ ?_
       rotate_left
       ·show Act.put _ (some 78) _ = _
        simp only [Act.put, List.setIfInBounds_toArray, List.set_cons_zero, List.set_cons_succ, i64_w, i32_w]
        rfl
       refine pure_ (i := 9) (N := some 79) (bs_ 12 1023) rfl rfl (any_of HT_.out qdk6_13) (fun _ _ _ h => h) (Or.inl ⟨by rfl, qpy_pdkx6⟩) qpa_pdkx6 ?_
       refine pure_ (i := 10) (N := some 80) (bs_ 12 2047) rfl rfl (any_of HT_.out qdk6_13) (fun _ _ _ h => h) (Or.inl ⟨by rfl, qpy_pdkx6⟩) qpa_pdkx6 ?_
       refine last_ (i := 11) (N := none) (bs_ 12 4095) rfl rfl (one_of HT_.out qdk6_13) qdk6_16 (fun K hK => ?_)
       refine skip_ (w1 := ?_) (by rfl) rfl ?_ ?_
       rotate_left
       ·go_simp
        rfl
       refine hK.out _ _ ?_
       clear hK K
       refine done_ (done_of HT_.out qdk6_13) ?_
       have n0_ : Aside0 (Kd.R (Kd.int .i64) 2 (w76.setCell ⟨go73, (t267 : Int).toNat * 4 + 1, none⟩ (.int .i64 t269)) w.heap.size (fun _ => True) (.slice Ao57 t246.length co57) t246) := ⟨(by (with_reducible repeat (first | apply Kd.R_alloc | apply Kd.R_drewN | apply Kd.R_drew)); exact Kd.R_mono (Kd.R_far (p := ⟨go73, (t267 : Int).toNat * 4 + 1, none⟩) (Kd.R_types HO_255000.out GG73.out qdk6_16) (fun _ hk => hk.2) (.int .i64 t269)) (fun _ hk => trivial))⟩
       have n1_ : Aside0 (Kd.R k62 62 (w76.setCell ⟨go73, (t267 : Int).toNat * 4 + 1, none⟩ (.int .i64 t269)) w.heap.size (fun _ => True) (.slice (some ⟨go73, 0, none⟩) t249.length co61) y271) := ⟨(by (with_reducible repeat (first | apply Kd.R_alloc | apply Kd.R_drewN | apply Kd.R_drew)); exact HQ77.out)⟩
       have n2_ : Aside0 ((w76.setCell ⟨go73, (t267 : Int).toNat * 4 + 1, none⟩ (.int .i64 t269)).heap[gb245]? = some (.cells #[.slice none 0 0, .slice none 0 0, .int .i64 0] 25 (0, 0))) := ⟨(rdk6_18 BK245)⟩
       have n3_ : Aside0 ((w76.setCell ⟨go73, (t267 : Int).toNat * 4 + 1, none⟩ (.int .i64 t269)).heap[gb254]? = some (.cells #[.slice Ao57 t246.length co57, .slice (some ⟨go73, 0, none⟩) t249.length co61, .int .i64 t252] 25 (0, 0))) := ⟨(rdk6_19 BK254)⟩
       have n4_ : Aside0 (IsS94 w0 (w76.setCell ⟨go73, (t267 : Int).toNat * 4 + 1, none⟩ (.int .i64 t269)) g s0_0 t270) := ⟨(by repeat (first | (with_reducible first | exact HI0.out | apply IsS94.alloc | apply IsS94.drewN | apply IsS94.drew | apply IsS94.set_1 | refine IsS94.far ?_ HN0_go73.out _ | refine IsS94.far ?_ NB0_245.out _ | refine IsS94.far ?_ NB0_254.out _) | exact HI0.out))⟩
       have n5_ : Aside0 (KeepBut w (w76.setCell ⟨go73, (t267 : Int).toNat * 4 + 1, none⟩ (.int .i64 t269)) g none) := ⟨(rdk6_16 HK GB73 GW245 GW254)⟩
       have n6_ : Aside0 (Below w0.heap.size w0 (w76.setCell ⟨go73, (t267 : Int).toNat * 4 + 1, none⟩ (.int .i64 t269))) := ⟨(rdk6_14 HB GB73 HI0 GE245 GE254)⟩
       (try clear HO_255000)
       (try clear HO_255001)
       (try clear BK245)
       (try clear BK254)
       (try clear HI0)
       (try clear HK)
       (try clear HB)
       generalize (w76.setCell ⟨go73, (t267 : Int).toNat * 4 + 1, none⟩ (.int .i64 t269)) = w78 at n0_ n1_ n2_ n3_ n4_ n5_ n6_ ⊢
       have HO_255000 := n0_
       have HO_255001 := n1_
       have BK245 := n2_
       have BK254 := n3_
       have HI0 := n4_
       have HK := n5_
       have HB := n6_
       clear n0_ n1_ n2_ n3_ n4_ n5_ n6_
       have hnb79 := NB254_245.out
       have hnc79 := NB245_254.out
       have hnb80 := NB254_0.out
       have hnc80 := NB0_254.out
       have hcz81_0 : w78.cell? ⟨gb254, 0, none⟩ = some (.slice Ao57 t246.length co57) := (blk_cell BK254.out 0).trans rfl
       have hcz81_1 : w78.cell? ⟨gb254, 1, none⟩ = some (.slice (some ⟨go73, 0, none⟩) t249.length co61) := (blk_cell BK254.out 1).trans rfl
       have hcz81_2 : w78.cell? ⟨gb254, 2, none⟩ = some (.int .i64 t252) := (blk_cell BK254.out 2).trans rfl
       have hfz81_0 := blk_frozen BK254.out 0
       have hfz81_1 := blk_frozen BK254.out 1
       have hfz81_2 := blk_frozen BK254.out 2
       have hnb82 := NB245_0.out
       have hnc82 := NB0_245.out
       have hcz83_0 : w78.cell? ⟨gb245, 0, none⟩ = some (.slice none 0 0) := (blk_cell BK245.out 0).trans rfl
       have hcz83_1 : w78.cell? ⟨gb245, 1, none⟩ = some (.slice none 0 0) := (blk_cell BK245.out 1).trans rfl
       have hcz83_2 : w78.cell? ⟨gb245, 2, none⟩ = some (.int .i64 0) := (blk_cell BK245.out 2).trans rfl
       have hfz83_0 := blk_frozen BK245.out 0
       have hfz83_1 := blk_frozen BK245.out 1
       have hfz83_2 := blk_frozen BK245.out 2
       try go_wp2
       refine bodyPost_ret (results_cell_row rfl _ _ gb245 25 #[.slice Ao57 t246.length co57, .slice (some ⟨go73, 0, none⟩) t249.length co61, .int .i64 t252] (0, 0) _ rfl (by (with_reducible repeat (first | refine blk_drewN ?_ _ | refine blk_drew ?_ | refine blk_alloc ?_ _)); refine blk_put (cs := #[.slice Ao57 t246.length co57, .slice (some ⟨go73, 0, none⟩) t249.length co61, .int .i64 0]) ?_ 2 _ rfl; (with_reducible repeat (first | refine blk_drewN ?_ _ | refine blk_drew ?_ | refine blk_alloc ?_ _)); refine blk_put (cs := #[.slice Ao57 t246.length co57, .slice none 0 0, .int .i64 0]) ?_ 1 _ rfl; (with_reducible repeat (first | refine blk_drewN ?_ _ | refine blk_drew ?_ | refine blk_alloc ?_ _)); refine blk_put (cs := #[.slice none 0 0, .slice none 0 0, .int .i64 0]) ?_ 0 _ rfl; (with_reducible repeat (first | refine blk_drewN ?_ _ | refine blk_drew ?_ | refine blk_alloc ?_ _)); exact BK245.out) Try.underlying25 rfl qdk6_13) rfl ?_
       exact ⟨_, _, rdk6_6, (rdk6_12 HO_255000 BK245), (rdk6_12 HO_255001 BK245), (rdk6_2 HI0 NB0_245 NB0_254), (rdk6_1 HB HI0 GE245 GE254), (rdk6_3 HK GW245 GW254)⟩
      rw [if_neg c72] at H
      exact absurd H (by simp)
     rw [if_neg c71] at H
     exact absurd H (by simp)
    replace c68 := Bool.eq_false_iff.mpr c68
    subst c68
    have H1 : (if t257 = 2 then (spec_l7DrawAny.j2 kj52 t257 (decide ((t249.length : Int) > 0)) s0_0 t258 t246 t249 t252) else (spec_l7DrawAny.j2 kj52 t257 false s0_0 t258 t246 t249 t252)) = some (r1, r2, r3, r4) := by rw [if_neg (show ¬ (false = true) by decide)] at H; exact H
    clear H
    have H := H1
    clear H1
    have HC84 := Aside0.mk H
    clear H
    go_upto_region 18 with (fail)
    go_cut [88] (fun v88 wc => ∃ (kq : Nat) (x88_83 : Bool), v88 = .bool x88_83 ∧ Aside0 (spec_l7DrawAny.j2 kq t257 x88_83 s0_0 t258 t246 t249 t252 = some (r1, r2, r3, r4)) ∧ Aside0 (kq ≤ kj52) ∧ Aside0 (Kd.R (Kd.int .i64) 2 wc w.heap.size (fun _ => True) (.slice Ao57 t246.length co57) t246) ∧ Aside0 (Kd.R k62 62 wc w.heap.size (fun _ => True) (.slice Ao61 t249.length co61) t249) ∧ Aside0 (wc.heap[gb245]? = some (.cells #[(.slice none 0 0), (.slice none 0 0), .int .i64 0] 25 (0, 0))) ∧ Aside0 (wc.heap[gb254]? = some (.cells #[(.slice Ao57 t246.length co57), (.slice Ao61 t249.length co61), .int .i64 t252] 25 (0, 0))) ∧ Aside0 (IsS94 w0 wc g s0_0 t258) ∧ Aside0 (KeepBut w wc g none) ∧ Aside0 (Below w0.heap.size w0 wc))
    case first =>
     have H := HC84.out
     clear HC84
     by_cases c85 : t257 = 2
     ·rw [if_pos c85] at H
      have c85b0 : (t257 == 2) = true := beq_iff_eq.mpr c85
      have c85b1 : (t257 != 2) = false := bne_eq_false_iff_eq.mpr c85
      clear c85
      (first | rw [c85b0] | (simp only [i64_w, i32_w]; rw [c85b0]) | skip)
      have H' := Aside0.mk H
      clear H
      have hnb86 := NB254_245.out
      have hnc86 := NB245_254.out
      have hnb87 := NB254_0.out
      have hnc87 := NB0_254.out
      have hcz88_0 : wc.cell? ⟨gb254, 0, none⟩ = some (.slice Ao57 t246.length co57) := (blk_cell BK254.out 0).trans rfl
      have hcz88_1 : wc.cell? ⟨gb254, 1, none⟩ = some (.slice Ao61 t249.length co61) := (blk_cell BK254.out 1).trans rfl
      have hcz88_2 : wc.cell? ⟨gb254, 2, none⟩ = some (.int .i64 t252) := (blk_cell BK254.out 2).trans rfl
      have hfz88_0 := blk_frozen BK254.out 0
      have hfz88_1 := blk_frozen BK254.out 1
      have hfz88_2 := blk_frozen BK254.out 2
      go_wp2
      go_meet
      case rel => exact ⟨_, (decide ((t249.length : Int) > 0)), qdk6_25, H', ⟨(by have := HJ52.out; first | omega | exact Nat.le_refl _)⟩, ⟨(rdk6_5 HO_255000)⟩, ⟨(rdk6_5 HO_255001)⟩, ⟨(rdk6_4 BK245)⟩, ⟨(rdk6_4 BK254)⟩, ⟨(rdk6_2 HI0 NB0_245 NB0_254)⟩, ⟨(rdk6_3 HK GW245 GW254)⟩, ⟨(rdk6_1 HB HI0 GE245 GE254)⟩⟩
     rw [if_neg c85] at H
     have c85b0 : (t257 == 2) = false := beq_eq_false_iff_ne.mpr c85
     have c85b1 : (t257 != 2) = true := bne_iff_ne.mpr c85
     (first | rw [c85b0] | (simp only [i64_w, i32_w]; rw [c85b0]) | skip)
     have H' := Aside0.mk H
     clear H
     go_wp2
     go_meet
     case rel => exact ⟨_, (false), qdk6_25, H', ⟨(by have := HJ52.out; first | omega | exact Nat.le_refl _)⟩, ⟨(rdk6_5 HO_255000)⟩, ⟨(rdk6_5 HO_255001)⟩, ⟨(rdk6_4 BK245)⟩, ⟨(rdk6_4 BK254)⟩, ⟨(rdk6_2 HI0 NB0_245 NB0_254)⟩, ⟨(rdk6_3 HK GW245 GW254)⟩, ⟨(rdk6_1 HB HI0 GE245 GE254)⟩⟩
    case rest =>
     clear HC84
     obtain ⟨kq, x88_83, rfl, HA, HJ83, HO_255000, HO_255001, BK245, BK254, HI0, HK, HB⟩ := hcut
     cases kq with
     | zero => exact absurd HA.out (by simp [spec_l7DrawAny.j2])
     | succ kj83 =>
      have H := HA.out
      clear HA
      simp only [spec_l7DrawAny.j2] at H
      by_cases c89 : x88_83 = true
      ·subst c89
       have H1 : ((spec_l1Rd_below.f s0_0 t258 (t249.length : Int)).bind fun bt272 => (if 0 ≤ bt272.1 then (if bt272.1 < (t249.length : Int) then (some (t246, (t249.set (bt272.1 : Int).toNat (⟨Go.bits .xor .u64 ((rd_T62 t249 bt272.1).f0) 1, (rd_T62 t249 bt272.1).f1, (rd_T62 t249 bt272.1).f2, (rd_T62 t249 bt272.1).f3⟩ : S62)), t252, bt272.2)) else (none)) else (none))) = some (r1, r2, r3, r4) := by rw [if_pos rfl] at H; exact H
       clear H
       have H := H1
       clear H1
       replace H := Option.bind_eq_some_iff.mp H
       obtain ⟨⟨t272, t273⟩, A900, H⟩ := H
       replace H : (if 0 ≤ t272 then (if t272 < (t249.length : Int) then (some (t246, (t249.set (t272 : Int).toNat (⟨Go.bits .xor .u64 ((rd_T62 t249 t272).f0) 1, (rd_T62 t249 t272).f1, (rd_T62 t249 t272).f2, (rd_T62 t249 t272).f3⟩ : S62)), t252, t273)) else (none)) else (none)) = some (r1, r2, r3, r4) := H
       have A90 := Aside0.mk A900
       clear A900
       by_cases c91 : 0 ≤ t272
       ·rw [if_pos c91] at H
        have c91b0 : decide (0 ≤ t272) = true := decide_eq_true c91
        clear c91
        by_cases c92 : t272 < (t249.length : Int)
        ·rw [if_pos c92] at H
         have c92b0 : decide (t272 < (t249.length : Int)) = true := decide_eq_true c92
         clear c92
         obtain ⟨y275, hy275⟩ : ∃ y_ : List (S62), y_ = (t249.set (t272 : Int).toNat (⟨Go.bits .xor .u64 ((rd_T62 t249 t272).f0) 1, (rd_T62 t249 t272).f1, (rd_T62 t249 t272).f2, (rd_T62 t249 t272).f3⟩ : S62)) := ⟨_, rfl⟩
         replace H : (some (t246, y275, t252, t273)) = some (r1, r2, r3, r4) := by first | (rw [hy275]; with_reducible exact H) | (have H2_ := (Option.bind_some _ _).symm.trans H; rw [hy275]; with_reducible exact H2_) | (have H2_ := (Option.bind_some _ _).symm.trans H; with_reducible exact H2_) | with_reducible exact H | (rw [hy275]; exact H) | exact H
         have Ny275 := Aside0.mk hy275
         clear hy275
         simp only [Option.some.injEq, Prod.mk.injEq] at H
         obtain ⟨rfl, rfl, rfl, rfl⟩ := H
         try go_wp2
         have n0_ := Aside0.mk (Kd.R_drew HO_255000.out)
         have n1_ := Aside0.mk (Kd.R_drew HO_255001.out)
         have n2_ := Aside0.mk (blk_drew BK245.out)
         have n3_ := Aside0.mk (blk_drew BK254.out)
         have n4_ := Aside0.mk (IsS94.drew HI0.out)
         have n5_ := Aside0.mk (keep_drew HK.out)
         have n6_ := Aside0.mk (below_drew1 HB.out)
         clear HO_255000 HO_255001 BK245 BK254 HI0 HK HB
         have HO_255000 := n0_
         have HO_255001 := n1_
         have BK245 := n2_
         have BK254 := n3_
         have HI0 := n4_
         have HK := n5_
         have HB := n6_
         clear n0_ n1_ n2_ n3_ n4_ n5_ n6_
         have p274 : 0 ≤ (t272 : Int) := of_decide_eq_true qdk6_14
         have q274 : t272 < (t249.length : Int) := of_decide_eq_true qdk6_14
         obtain ⟨go93, co94, eo94, gb94, gl94, cl94, HG94⟩ := Kd.R_form HO_255001.out (by omega)
         (first | cases eo94 | (injection eo94 with ea_ en_ ec_; (first | subst ea_ | (injection ea_ with ea_; subst ea_)); subst ec_; clear en_))
         clear gb94 gl94 cl94 HG94
         obtain ⟨ad274, e274, hx274_0, hx274_1, hx274_2, hx274_3⟩ := at_T62 (Kd.R_reads' HO_255001.out).2.2 t272 p274 q274
         cases e274
         simp only [add_plain] at hx274_0
         simp only [add_plain] at hx274_1
         simp only [add_plain] at hx274_2
         simp only [add_plain] at hx274_3
         replace p274 := eq_true p274
         replace q274 := eq_true q274
         refine start_ (n := 14) (S := fun w' => w'.cell? ⟨gb254, 0, none⟩ = some (.slice Ao57 t246.length co57) ∧ w'.cell? ⟨gb254, 1, none⟩ = some (.slice (some ⟨go93, 0, none⟩) t249.length co61) ∧ w'.cell? ⟨gb254, 2, none⟩ = some (.int .i64 t252) ∧ w'.cell? ⟨go93, (t272 : Int).toNat * 4, none⟩ = some (.int .u64 ((rd_T62 t249 t272).f0)) ∧ w'.cell? ⟨go93, (t272 : Int).toNat * 4 + 1, none⟩ = some (.int .i64 ((rd_T62 t249 t272).f1)) ∧ w'.cell? ⟨go93, (t272 : Int).toNat * 4 + 2, none⟩ = some (.int .i64 ((rd_T62 t249 t272).f2)) ∧ w'.cell? ⟨go93, (t272 : Int).toNat * 4 + 3, none⟩ = some (.bool ((rd_T62 t249 t272).f3))) (ds := [13]) (bs_ 14 0) qdk6_13 rfl rfl ⟨(blk_cell BK254.out 0).trans rfl, (blk_cell BK254.out 1).trans rfl, (blk_cell BK254.out 2).trans rfl, hx274_0, hx274_1, hx274_2, hx274_3⟩ (fun hHeld => ?_); refine with_tabW spec_l7DrawAny.tab19 spec_l7DrawAny.bits19 (fun HT_ HW_ => ?_)
         generalize wc.drew = w94 at HO_255000 HO_255001 BK245 BK254 HI0 HK HB hx274_0 hx274_1 hx274_2 hx274_3 hHeld ⊢
         refine pure_ (i := 0) (N := some 89) (bs_ 14 1) rfl rfl (any_of HT_.out qdk6_13) (fun _ _ _ h => h) (Or.inl ⟨by rfl, qpy_pdkx6⟩) qpa_pdkx6 ?_
         refine pure_ (i := 2) (N := some 91) (bs_ 14 5) rfl rfl (any_of HT_.out qdk6_13) (fun _ _ _ h => h) (Or.inl ⟨by rfl, qpy_pdkx6⟩) qpa_pdkx6 ?_
         refine pure_ (i := 3) (N := some 92) (bs_ 14 13) rfl rfl (any_of HT_.out qdk6_13) (fun _ _ _ h => h) (Or.inl ⟨by rfl, qpy_pdkx6⟩) qpa_pdkx6 ?_
         refine take_ (i := 1) (N := some 90) (bs_ 14 15) rfl rfl (take_ofW HT_.out HW_.out qdk6_13) (fun _ _ _ h => h) (Or.inl ⟨by rfl, qpt7_pdkx6⟩) hHeld qpa_pdkx6 ?_
         refine take_ (i := 4) (N := some 93) (bs_ 14 31) rfl rfl (take_ofW HT_.out HW_.out qdk6_13) (fun _ _ _ h => h) (Or.inl ⟨by rfl, qpt7_pdkx6⟩) hHeld qpa_pdkx6 ?_
         refine pure_ (i := 5) (N := some 94) (bs_ 14 63) rfl rfl (any_of HT_.out qdk6_13) (fun _ _ _ h => h) (Or.inl ⟨by rfl, qpy_pdkx6⟩) qpa_pdkx6 ?_
         refine one_ (i := 6) (N := some 95) (bs_ 14 127) rfl rfl (one_of HT_.out qdk6_13) qdk6_16 (fun K hK => ?_)
         refine goes_ Try.func47 qdk6_13 rfl #[.pointer (some ⟨g, 0, none⟩), .int .i64 (t249.length : Int)] (by rfl) rfl rfl qdk6_7 ?_
         with_reducible refine (spec_l1Rd_below.calls g s0_0 t258 (t249.length : Int) t272 t273 w0 _ ?side1 ?side2 A90.out).mono ?_
         (case side1 => exact (qdk6_6 NB0_245 NB0_254))
         (case side2 => exact (qdk6_5 HB GE245 GE254))
         rintro e w95 ⟨rfl, hi, hb, hk⟩
         have HS3_ := keep_cell hk (hHeld.2.2.2.1) (show go93 ≠ g from by have h_ := IsS94.own_ne HI0.out HO_255001.out (by decide); intro e_; exact h_ (by rw [e_]; rfl))
         have HS4_ := keep_cell hk (hHeld.2.2.2.2.1) (show go93 ≠ g from by have h_ := IsS94.own_ne HI0.out HO_255001.out (by decide); intro e_; exact h_ (by rw [e_]; rfl))
         have HS5_ := keep_cell hk (hHeld.2.2.2.2.2.1) (show go93 ≠ g from by have h_ := IsS94.own_ne HI0.out HO_255001.out (by decide); intro e_; exact h_ (by rw [e_]; rfl))
         have HS6_ := keep_cell hk (hHeld.2.2.2.2.2.2) (show go93 ≠ g from by have h_ := IsS94.own_ne HI0.out HO_255001.out (by decide); intro e_; exact h_ (by rw [e_]; rfl))
         refine ⟨_, rfl, ?_⟩
         have n0_ := Aside0.mk (Kd.R_mono (Kd.R_keep (IsS94.apart (show IsS94 w0 _ g s0_0 t258 from by repeat (first | (with_reducible first | exact HI0.out | apply IsS94.alloc | apply IsS94.drewN | apply IsS94.drew | apply IsS94.set_1 | refine IsS94.far ?_ NB0_245.out _ | refine IsS94.far ?_ NB0_254.out _) | exact HI0.out)) (qdk6_4 HO_255000) qdk6_16) hk (fun _ h => h.2)) (fun _ h => h.1))
         have n1_ := Aside0.mk (Kd.R_mono (Kd.R_keep (IsS94.apart (show IsS94 w0 _ g s0_0 t258 from by repeat (first | (with_reducible first | exact HI0.out | apply IsS94.alloc | apply IsS94.drewN | apply IsS94.drew | apply IsS94.set_1 | refine IsS94.far ?_ NB0_245.out _ | refine IsS94.far ?_ NB0_254.out _) | exact HI0.out)) (qdk6_4 HO_255001) qdk6_16) hk (fun _ h => h.2)) (fun _ h => h.1))
         have n2_ := Aside0.mk (KeepBut.blk hk (g' := gb245) (o := .cells #[.slice none 0 0, .slice none 0 0, .int .i64 0] 25 (0, 0)) (qdk6_1 BK245) NB245_0.out (by simp))
         have n3_ := Aside0.mk (KeepBut.blk hk (g' := gb254) (o := .cells #[.slice Ao57 t246.length co57, .slice (some ⟨go93, 0, none⟩) t249.length co61, .int .i64 t252] 25 (0, 0)) (qdk6_1 BK254) NB254_0.out (by simp))
         have n4_ := Aside0.mk (KeepBut.trans (qdk6_2 HK GW245 GW254) hk (.inl rfl))
         have n5_ := Aside0.mk (hb)
         have n6_ := Aside0.mk (hi)
         clear HO_255000 HO_255001 BK245 BK254 HK HB HI0
         have HO_255000 := n0_
         have HO_255001 := n1_
         have BK245 := n2_
         have BK254 := n3_
         have HK := n4_
         have HB := n5_
         have HI0 := n6_
         clear n0_ n1_ n2_ n3_ n4_ n5_ n6_
         (try clear hb)
         (try clear hb2)
         (try clear hk)
         (try clear hi)
         have p93 : 0 ≤ (t272 : Int) := of_decide_eq_true qdk6_14
         have q93 : (t272 : Int) < ((t249.length : Int) : Int) := of_decide_eq_true qdk6_14
         obtain ⟨go93_, co93, eo93, gb93, gl93, cl93, HG93⟩ := Kd.R_form HO_255001.out (by omega)
         (first | cases eo93 | (injection eo93 with ea_ en_ ec_; (first | subst ea_ | (injection ea_ with ea_; subst ea_)); subst ec_; clear en_))
         have GB93 := Aside0.mk gb93
         have GG93 := Aside0.mk HG93
         clear gb93 gl93 HG93
         (first | simp only [add_plain] at hx274_0 | skip)
         (first | simp only [add_plain] at hx274_1 | skip)
         (first | simp only [add_plain] at hx274_2 | skip)
         (first | simp only [add_plain] at hx274_3 | skip)
         obtain ⟨ce93, hcl93, hM93, hcc93, hfr93⟩ := Kd.R_elem HO_255001.out z62 (t272 : Int) p93 q93
         obtain rfl := k62_openM hM93
         have hx93_0 : World.cell? _ ⟨go93, (t272 : Int).toNat * 4, none⟩ = some (.int .u64 ((rd_T62 t249 t272).f0)) := hcc93 0 _ rfl
         have hx93_1 : World.cell? _ ⟨go93, (t272 : Int).toNat * 4 + 1, none⟩ = some (.int .i64 ((rd_T62 t249 t272).f1)) := hcc93 1 _ rfl
         have hx93_2 : World.cell? _ ⟨go93, (t272 : Int).toNat * 4 + 2, none⟩ = some (.int .i64 ((rd_T62 t249 t272).f2)) := hcc93 2 _ rfl
         have hx93_3 : World.cell? _ ⟨go93, (t272 : Int).toNat * 4 + 3, none⟩ = some (.bool ((rd_T62 t249 t272).f3)) := hcc93 3 _ rfl
         have hf93_0 : World.frozen? _ ⟨go93, (t272 : Int).toNat * 4, none⟩ = false := hfr93 0
         have hf93_1 : World.frozen? _ ⟨go93, (t272 : Int).toNat * 4 + 1, none⟩ = false := hfr93 1
         have hf93_2 : World.frozen? _ ⟨go93, (t272 : Int).toNat * 4 + 2, none⟩ = false := hfr93 2
         have hf93_3 : World.frozen? _ ⟨go93, (t272 : Int).toNat * 4 + 3, none⟩ = false := hfr93 3
         clear hcl93 hcc93 hfr93 hM93
         replace p93 := eq_true p93
         replace q93 := eq_true q93
         have HN0_go93 := Aside0.mk (show g ≠ go93 from by have h_ := IsS94.own_ne HI0.out HO_255001.out qdk6_16; intro e_; exact h_ (by rw [e_]; rfl))
         obtain ⟨ce96, hcl96, hM96, hcc96, hfr96⟩ := Kd.R_elem HO_255001.out z62 (t272 : Int) (of_decide_eq_true qdk6_14) (by have h_ : (t272 : Int) < ((t249.length : Int) : Int) := of_decide_eq_true qdk6_14; first | exact h_ | (have e_ := (Kd.R_reads' HO_255001.out).1; omega) | simpa using h_)
         obtain rfl := k62_openM hM96
         have HP96 := (Kd.R_seg HO_255001.out (t272 : Int) (of_decide_eq_true qdk6_14) (by have h_ : (t272 : Int) < ((t249.length : Int) : Int) := of_decide_eq_true qdk6_14; first | exact h_ | (have e_ := (Kd.R_reads' HO_255001.out).1; omega) | simpa using h_) (seg := [.int .u64 (Go.bits .xor .u64 ((rd_T62 t249 t272).f0) 1)]) (j := 0) hcl96 hcc96 (show 1 ≤ 4 from by decide) (x' := (⟨Go.bits .xor .u64 ((rd_T62 t249 t272).f0) 1, (rd_T62 t249 t272).f1, (rd_T62 t249 t272).f2, (rd_T62 t249 t272).f3⟩ : S62)) (k62_mkM _ _ _ (⟨Go.bits .xor .u64 ((rd_T62 t249 t272).f0) 1, (rd_T62 t249 t272).f1, (rd_T62 t249 t272).f2, (rd_T62 t249 t272).f3⟩ : S62) ) (fun _ hk => hk)).1
         rw [← Ny275.out] at HP96
         have HQ96 := Aside0.mk HP96
         clear hcl96 hcc96 hfr96 hM96 HP96
         refine hK.out _ _ ⟨(blk_cell BK254.out 0).trans rfl, (blk_cell BK254.out 1).trans rfl, (blk_cell BK254.out 2).trans rfl, HS3_, HS4_, HS5_, HS6_⟩ (fun hHeld => ?_)
         clear hK K
         refine norm_ (a' := ?_) ?_ ?_
         rotate_left
         ·show Act.put _ (some 95) _ = _
          simp only [Act.put, List.setIfInBounds_toArray, List.set_cons_zero, List.set_cons_succ, i64_w, i32_w]
          rfl
         refine pure_ (i := 7) (N := some 96) (bs_ 14 255) rfl rfl (any_of HT_.out qdk6_13) (fun _ _ _ h => h) (Or.inl ⟨by rfl, qpy_pdkx6⟩) qpa_pdkx6 ?_
         refine pure_ (i := 8) (N := some 97) (bs_ 14 511) rfl rfl (any_of HT_.out qdk6_13) (fun _ _ _ h => h) (Or.inl ⟨by rfl, qpy_pdkx6⟩) qpa_pdkx6 ?_
         refine take_ (i := 9) (N := some 98) (bs_ 14 1023) rfl rfl (take_ofW HT_.out HW_.out qdk6_13) (fun _ _ _ h => h) (Or.inl ⟨by rfl, qpt7_pdkx6⟩) hHeld qpa_pdkx6 ?_
         refine pure_ (i := 10) (N := some 99) (bs_ 14 2047) rfl rfl (any_of HT_.out qdk6_13) (fun _ _ _ h => h) (Or.inl ⟨by rfl, qpy_pdkx6⟩) qpa_pdkx6 ?_
         refine pure_ (i := 11) (N := some 100) (bs_ 14 4095) rfl rfl (any_of HT_.out qdk6_13) (fun _ _ _ h => h) (Or.inl ⟨by rfl, qpy_pdkx6⟩) qpa_pdkx6 ?_
         refine pure_ (i := 12) (N := some 101) (bs_ 14 8191) rfl rfl (any_of HT_.out qdk6_13) (fun _ _ _ h => h) (Or.inl ⟨by rfl, qpy_pdkx6⟩) qpa_pdkx6 ?_
         refine last_ (i := 13) (N := none) (bs_ 14 16383) rfl rfl (one_of HT_.out qdk6_13) qdk6_16 (fun K hK => ?_)
         refine skip_ (w1 := ?_) (by rfl) rfl ?_ ?_
         rotate_left
         ·go_simp
          rfl
         refine hK.out _ _ ?_
         clear hK K
         refine done_ (done_of HT_.out qdk6_13) ?_
         have n0_ : Aside0 (Kd.R (Kd.int .i64) 2 (w95.setCell ⟨go93, (t272 : Int).toNat * 4, none⟩ (.int .u64 (Go.bits .xor .u64 ((rd_T62 t249 t272).f0) 1))) w.heap.size (fun _ => True) (.slice Ao57 t246.length co57) t246) := ⟨(by (with_reducible repeat (first | apply Kd.R_alloc | apply Kd.R_drewN | apply Kd.R_drew)); exact Kd.R_mono (Kd.R_far (p := ⟨go93, (t272 : Int).toNat * 4, none⟩) (Kd.R_types HO_255000.out GG93.out qdk6_16) (fun _ hk => hk.2) (.int .u64 (Go.bits .xor .u64 ((rd_T62 t249 t272).f0) 1))) (fun _ hk => trivial))⟩
         have n1_ : Aside0 (Kd.R k62 62 (w95.setCell ⟨go93, (t272 : Int).toNat * 4, none⟩ (.int .u64 (Go.bits .xor .u64 ((rd_T62 t249 t272).f0) 1))) w.heap.size (fun _ => True) (.slice (some ⟨go93, 0, none⟩) t249.length co61) y275) := ⟨(by (with_reducible repeat (first | apply Kd.R_alloc | apply Kd.R_drewN | apply Kd.R_drew)); exact HQ96.out)⟩
         have n2_ : Aside0 ((w95.setCell ⟨go93, (t272 : Int).toNat * 4, none⟩ (.int .u64 (Go.bits .xor .u64 ((rd_T62 t249 t272).f0) 1))).heap[gb245]? = some (.cells #[.slice none 0 0, .slice none 0 0, .int .i64 0] 25 (0, 0))) := ⟨(rdk6_18 BK245)⟩
         have n3_ : Aside0 ((w95.setCell ⟨go93, (t272 : Int).toNat * 4, none⟩ (.int .u64 (Go.bits .xor .u64 ((rd_T62 t249 t272).f0) 1))).heap[gb254]? = some (.cells #[.slice Ao57 t246.length co57, .slice (some ⟨go93, 0, none⟩) t249.length co61, .int .i64 t252] 25 (0, 0))) := ⟨(rdk6_19 BK254)⟩
         have n4_ : Aside0 (IsS94 w0 (w95.setCell ⟨go93, (t272 : Int).toNat * 4, none⟩ (.int .u64 (Go.bits .xor .u64 ((rd_T62 t249 t272).f0) 1))) g s0_0 t273) := ⟨(by repeat (first | (with_reducible first | exact HI0.out | apply IsS94.alloc | apply IsS94.drewN | apply IsS94.drew | apply IsS94.set_1 | refine IsS94.far ?_ HN0_go93.out _ | refine IsS94.far ?_ NB0_245.out _ | refine IsS94.far ?_ NB0_254.out _) | exact HI0.out))⟩
         have n5_ : Aside0 (KeepBut w (w95.setCell ⟨go93, (t272 : Int).toNat * 4, none⟩ (.int .u64 (Go.bits .xor .u64 ((rd_T62 t249 t272).f0) 1))) g none) := ⟨(rdk6_16 HK GB93 GW245 GW254)⟩
         have n6_ : Aside0 (Below w0.heap.size w0 (w95.setCell ⟨go93, (t272 : Int).toNat * 4, none⟩ (.int .u64 (Go.bits .xor .u64 ((rd_T62 t249 t272).f0) 1)))) := ⟨(rdk6_14 HB GB93 HI0 GE245 GE254)⟩
         (try clear HO_255000)
         (try clear HO_255001)
         (try clear BK245)
         (try clear BK254)
         (try clear HI0)
         (try clear HK)
         (try clear HB)
         generalize (w95.setCell ⟨go93, (t272 : Int).toNat * 4, none⟩ (.int .u64 (Go.bits .xor .u64 ((rd_T62 t249 t272).f0) 1))) = w97 at n0_ n1_ n2_ n3_ n4_ n5_ n6_ ⊢
         have HO_255000 := n0_
         have HO_255001 := n1_
         have BK245 := n2_
         have BK254 := n3_
         have HI0 := n4_
         have HK := n5_
         have HB := n6_
         clear n0_ n1_ n2_ n3_ n4_ n5_ n6_
         have hnb98 := NB254_245.out
         have hnc98 := NB245_254.out
         have hnb99 := NB254_0.out
         have hnc99 := NB0_254.out
         have hcz100_0 : w97.cell? ⟨gb254, 0, none⟩ = some (.slice Ao57 t246.length co57) := (blk_cell BK254.out 0).trans rfl
         have hcz100_1 : w97.cell? ⟨gb254, 1, none⟩ = some (.slice (some ⟨go93, 0, none⟩) t249.length co61) := (blk_cell BK254.out 1).trans rfl
         have hcz100_2 : w97.cell? ⟨gb254, 2, none⟩ = some (.int .i64 t252) := (blk_cell BK254.out 2).trans rfl
         have hfz100_0 := blk_frozen BK254.out 0
         have hfz100_1 := blk_frozen BK254.out 1
         have hfz100_2 := blk_frozen BK254.out 2
         have hnb101 := NB245_0.out
         have hnc101 := NB0_245.out
         have hcz102_0 : w97.cell? ⟨gb245, 0, none⟩ = some (.slice none 0 0) := (blk_cell BK245.out 0).trans rfl
         have hcz102_1 : w97.cell? ⟨gb245, 1, none⟩ = some (.slice none 0 0) := (blk_cell BK245.out 1).trans rfl
         have hcz102_2 : w97.cell? ⟨gb245, 2, none⟩ = some (.int .i64 0) := (blk_cell BK245.out 2).trans rfl
         have hfz102_0 := blk_frozen BK245.out 0
         have hfz102_1 := blk_frozen BK245.out 1
         have hfz102_2 := blk_frozen BK245.out 2
         try go_wp2
         refine bodyPost_ret (results_cell_row rfl _ _ gb245 25 #[.slice Ao57 t246.length co57, .slice (some ⟨go93, 0, none⟩) t249.length co61, .int .i64 t252] (0, 0) _ rfl (by (with_reducible repeat (first | refine blk_drewN ?_ _ | refine blk_drew ?_ | refine blk_alloc ?_ _)); refine blk_put (cs := #[.slice Ao57 t246.length co57, .slice (some ⟨go93, 0, none⟩) t249.length co61, .int .i64 0]) ?_ 2 _ rfl; (with_reducible repeat (first | refine blk_drewN ?_ _ | refine blk_drew ?_ | refine blk_alloc ?_ _)); refine blk_put (cs := #[.slice Ao57 t246.length co57, .slice none 0 0, .int .i64 0]) ?_ 1 _ rfl; (with_reducible repeat (first | refine blk_drewN ?_ _ | refine blk_drew ?_ | refine blk_alloc ?_ _)); refine blk_put (cs := #[.slice none 0 0, .slice none 0 0, .int .i64 0]) ?_ 0 _ rfl; (with_reducible repeat (first | refine blk_drewN ?_ _ | refine blk_drew ?_ | refine blk_alloc ?_ _)); exact BK245.out) Try.underlying25 rfl qdk6_13) rfl ?_
         exact ⟨_, _, rdk6_6, (rdk6_13 HO_255000 BK245), (rdk6_13 HO_255001 BK245), (rdk6_2 HI0 NB0_245 NB0_254), (rdk6_1 HB HI0 GE245 GE254), (rdk6_3 HK GW245 GW254)⟩
        rw [if_neg c92] at H
        exact absurd H (by simp)
       rw [if_neg c91] at H
       exact absurd H (by simp)
      replace c89 := Bool.eq_false_iff.mpr c89
      subst c89
      have H1 : (if t257 = 3 then ((spec_l1Rd_below.f s0_0 t258 (t246.length : Int)).bind fun bt276 => ((spec_l1Rd_below.f s0_0 bt276.2 5).bind fun bt278 => (if 0 ≤ bt276.1 then (if bt276.1 < (t246.length : Int) then (some ((t246.set (bt276.1 : Int).toNat (wrap64 (bt278.1 - 1))), t249, t252, bt278.2)) else (none)) else (none)))) else (if t257 = 4 then (if t246.length < 17592186044416 then (some ((t246 ++ [(-1)]), t249, t252, t258)) else (none)) else (if t257 = 5 then (if t246.length + t246.length < 17592186044416 then (some ((t246 ++ t246), t249, t252, t258)) else (none)) else (some (([] : List Int), ([] : List (S62)), 0, t258))))) = some (r1, r2, r3, r4) := by rw [if_neg (show ¬ (false = true) by decide)] at H; exact H
      clear H
      have H := H1
      clear H1
      by_cases c103 : t257 = 3
      ·rw [if_pos c103] at H
       have c103b0 : (t257 == 3) = true := beq_iff_eq.mpr c103
       have c103b1 : (t257 != 3) = false := bne_eq_false_iff_eq.mpr c103
       clear c103
       replace H := Option.bind_eq_some_iff.mp H
       obtain ⟨⟨t276, t277⟩, A1040, H⟩ := H
       replace H : ((spec_l1Rd_below.f s0_0 t277 5).bind fun bt278 => (if 0 ≤ t276 then (if t276 < (t246.length : Int) then (some ((t246.set (t276 : Int).toNat (wrap64 (bt278.1 - 1))), t249, t252, bt278.2)) else (none)) else (none))) = some (r1, r2, r3, r4) := H
       have A104 := Aside0.mk A1040
       clear A1040
       replace H := Option.bind_eq_some_iff.mp H
       obtain ⟨⟨t278, t279⟩, A1050, H⟩ := H
       replace H : (if 0 ≤ t276 then (if t276 < (t246.length : Int) then (some ((t246.set (t276 : Int).toNat (wrap64 (t278 - 1))), t249, t252, t279)) else (none)) else (none)) = some (r1, r2, r3, r4) := H
       have A105 := Aside0.mk A1050
       clear A1050
       by_cases c106 : 0 ≤ t276
       ·rw [if_pos c106] at H
        have c106b0 : decide (0 ≤ t276) = true := decide_eq_true c106
        clear c106
        by_cases c107 : t276 < (t246.length : Int)
        ·rw [if_pos c107] at H
         have c107b0 : decide (t276 < (t246.length : Int)) = true := decide_eq_true c107
         clear c107
         obtain ⟨y280, hy280⟩ : ∃ y_ : List Int, y_ = (t246.set (t276 : Int).toNat (wrap64 (t278 - 1))) := ⟨_, rfl⟩
         replace H : (some (y280, t249, t252, t279)) = some (r1, r2, r3, r4) := by first | (rw [hy280]; with_reducible exact H) | (have H2_ := (Option.bind_some _ _).symm.trans H; rw [hy280]; with_reducible exact H2_) | (have H2_ := (Option.bind_some _ _).symm.trans H; with_reducible exact H2_) | with_reducible exact H | (rw [hy280]; exact H) | exact H
         have Ny280 := Aside0.mk hy280
         clear hy280
         simp only [Option.some.injEq, Prod.mk.injEq] at H
         obtain ⟨rfl, rfl, rfl, rfl⟩ := H
         try go_wp2
         have n0_ := Aside0.mk (Kd.R_drew HO_255000.out)
         have n1_ := Aside0.mk (Kd.R_drew HO_255001.out)
         have n2_ := Aside0.mk (blk_drew BK245.out)
         have n3_ := Aside0.mk (blk_drew BK254.out)
         have n4_ := Aside0.mk (IsS94.drew HI0.out)
         have n5_ := Aside0.mk (keep_drew HK.out)
         have n6_ := Aside0.mk (below_drew1 HB.out)
         clear HO_255000 HO_255001 BK245 BK254 HI0 HK HB
         have HO_255000 := n0_
         have HO_255001 := n1_
         have BK245 := n2_
         have BK254 := n3_
         have HI0 := n4_
         have HK := n5_
         have HB := n6_
         clear n0_ n1_ n2_ n3_ n4_ n5_ n6_
         refine start_ (n := 12) (S := fun w' => w'.cell? ⟨gb254, 0, none⟩ = some (.slice Ao57 t246.length co57) ∧ w'.cell? ⟨gb254, 1, none⟩ = some (.slice Ao61 t249.length co61) ∧ w'.cell? ⟨gb254, 2, none⟩ = some (.int .i64 t252)) (ds := [11]) (bs_ 12 0) qdk6_13 rfl rfl ⟨(blk_cell BK254.out 0).trans rfl, (blk_cell BK254.out 1).trans rfl, (blk_cell BK254.out 2).trans rfl⟩ (fun hHeld => ?_); refine with_tabW spec_l7DrawAny.tab21 spec_l7DrawAny.bits21 (fun HT_ HW_ => ?_)
         generalize wc.drew = w109 at HO_255000 HO_255001 BK245 BK254 HI0 HK HB hHeld ⊢
         refine pure_ (i := 0) (N := some 104) (bs_ 12 1) rfl rfl (any_of HT_.out qdk6_13) (fun _ _ _ h => h) (Or.inl ⟨by rfl, qpy_pdkx6⟩) qpa_pdkx6 ?_
         refine pure_ (i := 2) (N := some 106) (bs_ 12 5) rfl rfl (any_of HT_.out qdk6_13) (fun _ _ _ h => h) (Or.inl ⟨by rfl, qpy_pdkx6⟩) qpa_pdkx6 ?_
         refine pure_ (i := 3) (N := some 107) (bs_ 12 13) rfl rfl (any_of HT_.out qdk6_13) (fun _ _ _ h => h) (Or.inl ⟨by rfl, qpy_pdkx6⟩) qpa_pdkx6 ?_
         refine pure_ (i := 7) (N := some 111) (bs_ 12 141) rfl rfl (any_of HT_.out qdk6_13) (fun _ _ _ h => h) (Or.inl ⟨by rfl, qpy_pdkx6⟩) qpa_pdkx6 ?_
         refine take_ (i := 1) (N := some 105) (bs_ 12 143) rfl rfl (take_ofW HT_.out HW_.out qdk6_13) (fun _ _ _ h => h) (Or.inl ⟨by rfl, qpt3_pdkx6⟩) hHeld qpa_pdkx6 ?_
         refine take_ (i := 4) (N := some 108) (bs_ 12 159) rfl rfl (take_ofW HT_.out HW_.out qdk6_13) (fun _ _ _ h => h) (Or.inl ⟨by rfl, qpt3_pdkx6⟩) hHeld qpa_pdkx6 ?_
         refine pure_ (i := 5) (N := some 109) (bs_ 12 191) rfl rfl (any_of HT_.out qdk6_13) (fun _ _ _ h => h) (Or.inl ⟨by rfl, qpy_pdkx6⟩) qpa_pdkx6 ?_
         refine one_ (i := 6) (N := some 110) (bs_ 12 255) rfl rfl (one_of HT_.out qdk6_13) qdk6_16 (fun K hK => ?_)
         refine goes_ Try.func47 qdk6_13 rfl #[.pointer (some ⟨g, 0, none⟩), .int .i64 (t246.length : Int)] (by rfl) rfl rfl qdk6_7 ?_
         with_reducible refine (spec_l1Rd_below.calls g s0_0 t258 (t246.length : Int) t276 t277 w0 _ ?side1 ?side2 A104.out).mono ?_
         (case side1 => exact (qdk6_6 NB0_245 NB0_254))
         (case side2 => exact (qdk6_5 HB GE245 GE254))
         rintro e w110 ⟨rfl, hi, hb, hk⟩
         refine ⟨_, rfl, ?_⟩
         have n0_ := Aside0.mk (Kd.R_mono (Kd.R_keep (IsS94.apart (show IsS94 w0 _ g s0_0 t258 from by repeat (first | (with_reducible first | exact HI0.out | apply IsS94.alloc | apply IsS94.drewN | apply IsS94.drew | apply IsS94.set_1 | refine IsS94.far ?_ NB0_245.out _ | refine IsS94.far ?_ NB0_254.out _) | exact HI0.out)) (qdk6_4 HO_255000) qdk6_16) hk (fun _ h => h.2)) (fun _ h => h.1))
         have n1_ := Aside0.mk (Kd.R_mono (Kd.R_keep (IsS94.apart (show IsS94 w0 _ g s0_0 t258 from by repeat (first | (with_reducible first | exact HI0.out | apply IsS94.alloc | apply IsS94.drewN | apply IsS94.drew | apply IsS94.set_1 | refine IsS94.far ?_ NB0_245.out _ | refine IsS94.far ?_ NB0_254.out _) | exact HI0.out)) (qdk6_4 HO_255001) qdk6_16) hk (fun _ h => h.2)) (fun _ h => h.1))
         have n2_ := Aside0.mk (KeepBut.blk hk (g' := gb245) (o := .cells #[.slice none 0 0, .slice none 0 0, .int .i64 0] 25 (0, 0)) (qdk6_1 BK245) NB245_0.out (by simp))
         have n3_ := Aside0.mk (KeepBut.blk hk (g' := gb254) (o := .cells #[.slice Ao57 t246.length co57, .slice Ao61 t249.length co61, .int .i64 t252] 25 (0, 0)) (qdk6_1 BK254) NB254_0.out (by simp))
         have n4_ := Aside0.mk (KeepBut.trans (qdk6_2 HK GW245 GW254) hk (.inl rfl))
         have n5_ := Aside0.mk (hb)
         have n6_ := Aside0.mk (hi)
         clear HO_255000 HO_255001 BK245 BK254 HK HB HI0
         have HO_255000 := n0_
         have HO_255001 := n1_
         have BK245 := n2_
         have BK254 := n3_
         have HK := n4_
         have HB := n5_
         have HI0 := n6_
         clear n0_ n1_ n2_ n3_ n4_ n5_ n6_
         (try clear hb)
         (try clear hb2)
         (try clear hk)
         (try clear hi)
         refine hK.out _ _ ⟨(blk_cell BK254.out 0).trans rfl, (blk_cell BK254.out 1).trans rfl, (blk_cell BK254.out 2).trans rfl⟩ (fun hHeld => ?_)
         clear hK K
         refine norm_ (a' := ?_) ?_ ?_
         rotate_left
         ·show Act.put _ (some 110) _ = _
          simp only [Act.put, List.setIfInBounds_toArray, List.set_cons_zero, List.set_cons_succ, i64_w, i32_w]
          rfl
         refine one_ (i := 8) (N := some 112) (bs_ 12 511) rfl rfl (one_of HT_.out qdk6_13) qdk6_16 (fun K hK => ?_)
         refine goes_ Try.func47 qdk6_13 rfl #[.pointer (some ⟨g, 0, none⟩), .int .i64 5] (by rfl) rfl rfl qdk6_7 ?_
         with_reducible refine (spec_l1Rd_below.calls g s0_0 t277 5 t278 t279 w0 _ ?side1 ?side2 A105.out).mono ?_
         (case side1 => exact (qdk6_6 NB0_245 NB0_254))
         (case side2 => exact (qdk6_5 HB GE245 GE254))
         rintro e w111 ⟨rfl, hi, hb, hk⟩
         refine ⟨_, rfl, ?_⟩
         have n0_ := Aside0.mk (Kd.R_mono (Kd.R_keep (IsS94.apart (show IsS94 w0 _ g s0_0 t277 from by repeat (first | (with_reducible first | exact HI0.out | apply IsS94.alloc | apply IsS94.drewN | apply IsS94.drew | apply IsS94.set_1 | refine IsS94.far ?_ NB0_245.out _ | refine IsS94.far ?_ NB0_254.out _) | exact HI0.out)) (qdk6_4 HO_255000) qdk6_16) hk (fun _ h => h.2)) (fun _ h => h.1))
         have n1_ := Aside0.mk (Kd.R_mono (Kd.R_keep (IsS94.apart (show IsS94 w0 _ g s0_0 t277 from by repeat (first | (with_reducible first | exact HI0.out | apply IsS94.alloc | apply IsS94.drewN | apply IsS94.drew | apply IsS94.set_1 | refine IsS94.far ?_ NB0_245.out _ | refine IsS94.far ?_ NB0_254.out _) | exact HI0.out)) (qdk6_4 HO_255001) qdk6_16) hk (fun _ h => h.2)) (fun _ h => h.1))
         have n2_ := Aside0.mk (KeepBut.blk hk (g' := gb245) (o := .cells #[.slice none 0 0, .slice none 0 0, .int .i64 0] 25 (0, 0)) (qdk6_1 BK245) NB245_0.out (by simp))
         have n3_ := Aside0.mk (KeepBut.blk hk (g' := gb254) (o := .cells #[.slice Ao57 t246.length co57, .slice Ao61 t249.length co61, .int .i64 t252] 25 (0, 0)) (qdk6_1 BK254) NB254_0.out (by simp))
         have n4_ := Aside0.mk (KeepBut.trans (qdk6_2 HK GW245 GW254) hk (.inl rfl))
         have n5_ := Aside0.mk (hb)
         have n6_ := Aside0.mk (hi)
         clear HO_255000 HO_255001 BK245 BK254 HK HB HI0
         have HO_255000 := n0_
         have HO_255001 := n1_
         have BK245 := n2_
         have BK254 := n3_
         have HK := n4_
         have HB := n5_
         have HI0 := n6_
         clear n0_ n1_ n2_ n3_ n4_ n5_ n6_
         (try clear hb)
         (try clear hb2)
         (try clear hk)
         (try clear hi)
         have p108 : 0 ≤ (t276 : Int) := of_decide_eq_true qdk6_14
         have q108 : (t276 : Int) < ((t246.length : Int) : Int) := of_decide_eq_true qdk6_14
         obtain ⟨go108, co108, eo108, gb108, gl108, cl108, HG108⟩ := Kd.R_form HO_255000.out (by omega)
         (first | cases eo108 | (injection eo108 with ea_ en_ ec_; (first | subst ea_ | (injection ea_ with ea_; subst ea_)); subst ec_; clear en_))
         have GB108 := Aside0.mk gb108
         have GG108 := Aside0.mk HG108
         clear gb108 gl108 HG108
         obtain ⟨hx108_0, hf108_0⟩ := Kd.R_celln 0 HO_255000.out (t276 : Int) p108 q108
         replace p108 := eq_true p108
         replace q108 := eq_true q108
         have HN0_go108 := Aside0.mk (show g ≠ go108 from by have h_ := IsS94.own_ne HI0.out HO_255000.out qdk6_16; intro e_; exact h_ (by rw [e_]; rfl))
         have HP112 := Kd.R_putn HO_255000.out (t276 : Int) (wrap64 (t278 - 1))
         rw [← Ny280.out] at HP112
         have HQ112 := Aside0.mk HP112
         clear HP112
         refine hK.out _ _ ⟨(blk_cell BK254.out 0).trans rfl, (blk_cell BK254.out 1).trans rfl, (blk_cell BK254.out 2).trans rfl⟩ (fun hHeld => ?_)
         clear hK K
         refine norm_ (a' := ?_) ?_ ?_
         rotate_left
         ·show Act.put _ (some 112) _ = _
          simp only [Act.put, List.setIfInBounds_toArray, List.set_cons_zero, List.set_cons_succ, i64_w, i32_w]
          rfl
         refine pure_ (i := 9) (N := some 113) (bs_ 12 1023) rfl rfl (any_of HT_.out qdk6_13) (fun _ _ _ h => h) (Or.inl ⟨by rfl, qpy_pdkx6⟩) qpa_pdkx6 ?_
         refine pure_ (i := 10) (N := some 114) (bs_ 12 2047) rfl rfl (any_of HT_.out qdk6_13) (fun _ _ _ h => h) (Or.inl ⟨by rfl, qpy_pdkx6⟩) qpa_pdkx6 ?_
         refine last_ (i := 11) (N := none) (bs_ 12 4095) rfl rfl (one_of HT_.out qdk6_13) qdk6_16 (fun K hK => ?_)
         refine skip_ (w1 := ?_) (by rfl) rfl ?_ ?_
         rotate_left
         ·go_simp
          rfl
         refine hK.out _ _ ?_
         clear hK K
         refine done_ (done_of HT_.out qdk6_13) ?_
         have n0_ : Aside0 (Kd.R (Kd.int .i64) 2 (w111.setCell ⟨go108, (t276 : Int).toNat, none⟩ (.int .i64 (wrap64 (t278 - 1)))) w.heap.size (fun _ => True) (.slice (some ⟨go108, 0, none⟩) t246.length co57) y280) := ⟨(by (with_reducible repeat (first | apply Kd.R_alloc | apply Kd.R_drewN | apply Kd.R_drew)); exact HQ112.out)⟩
         have n1_ : Aside0 (Kd.R k62 62 (w111.setCell ⟨go108, (t276 : Int).toNat, none⟩ (.int .i64 (wrap64 (t278 - 1)))) w.heap.size (fun _ => True) (.slice Ao61 t249.length co61) t249) := ⟨(by (with_reducible repeat (first | apply Kd.R_alloc | apply Kd.R_drewN | apply Kd.R_drew)); exact Kd.R_mono (Kd.R_far (p := ⟨go108, (t276 : Int).toNat, none⟩) (Kd.R_types HO_255001.out GG108.out qdk6_16) (fun _ hk => hk.2) (.int .i64 (wrap64 (t278 - 1)))) (fun _ hk => trivial))⟩
         have n2_ : Aside0 ((w111.setCell ⟨go108, (t276 : Int).toNat, none⟩ (.int .i64 (wrap64 (t278 - 1)))).heap[gb245]? = some (.cells #[.slice none 0 0, .slice none 0 0, .int .i64 0] 25 (0, 0))) := ⟨(by (with_reducible repeat (first | refine blk_drewN ?_ _ | refine blk_drew ?_ | refine blk_alloc ?_ _)); refine blk_far ?_ (qdk6_24 HO_255000 BK245) _; (with_reducible repeat (first | refine blk_drewN ?_ _ | refine blk_drew ?_ | refine blk_alloc ?_ _)); exact BK245.out)⟩
         have n3_ : Aside0 ((w111.setCell ⟨go108, (t276 : Int).toNat, none⟩ (.int .i64 (wrap64 (t278 - 1)))).heap[gb254]? = some (.cells #[.slice (some ⟨go108, 0, none⟩) t246.length co57, .slice Ao61 t249.length co61, .int .i64 t252] 25 (0, 0))) := ⟨(by (with_reducible repeat (first | refine blk_drewN ?_ _ | refine blk_drew ?_ | refine blk_alloc ?_ _)); refine blk_far ?_ (qdk6_24 HO_255000 BK254) _; (with_reducible repeat (first | refine blk_drewN ?_ _ | refine blk_drew ?_ | refine blk_alloc ?_ _)); exact BK254.out)⟩
         have n4_ : Aside0 (IsS94 w0 (w111.setCell ⟨go108, (t276 : Int).toNat, none⟩ (.int .i64 (wrap64 (t278 - 1)))) g s0_0 t279) := ⟨(by repeat (first | (with_reducible first | exact HI0.out | apply IsS94.alloc | apply IsS94.drewN | apply IsS94.drew | apply IsS94.set_1 | refine IsS94.far ?_ HN0_go108.out _ | refine IsS94.far ?_ NB0_245.out _ | refine IsS94.far ?_ NB0_254.out _) | exact HI0.out))⟩
         have n5_ : Aside0 (KeepBut w (w111.setCell ⟨go108, (t276 : Int).toNat, none⟩ (.int .i64 (wrap64 (t278 - 1)))) g none) := ⟨(rdk6_16 HK GB108 GW245 GW254)⟩
         have n6_ : Aside0 (Below w0.heap.size w0 (w111.setCell ⟨go108, (t276 : Int).toNat, none⟩ (.int .i64 (wrap64 (t278 - 1))))) := ⟨(rdk6_14 HB GB108 HI0 GE245 GE254)⟩
         (try clear HO_255000)
         (try clear HO_255001)
         (try clear BK245)
         (try clear BK254)
         (try clear HI0)
         (try clear HK)
         (try clear HB)
         generalize (w111.setCell ⟨go108, (t276 : Int).toNat, none⟩ (.int .i64 (wrap64 (t278 - 1)))) = w113 at n0_ n1_ n2_ n3_ n4_ n5_ n6_ ⊢
         have HO_255000 := n0_
         have HO_255001 := n1_
         have BK245 := n2_
         have BK254 := n3_
         have HI0 := n4_
         have HK := n5_
         have HB := n6_
         clear n0_ n1_ n2_ n3_ n4_ n5_ n6_
         have hnb114 := NB254_245.out
         have hnc114 := NB245_254.out
         have hnb115 := NB254_0.out
         have hnc115 := NB0_254.out
         have hcz116_0 : w113.cell? ⟨gb254, 0, none⟩ = some (.slice (some ⟨go108, 0, none⟩) t246.length co57) := (blk_cell BK254.out 0).trans rfl
         have hcz116_1 : w113.cell? ⟨gb254, 1, none⟩ = some (.slice Ao61 t249.length co61) := (blk_cell BK254.out 1).trans rfl
         have hcz116_2 : w113.cell? ⟨gb254, 2, none⟩ = some (.int .i64 t252) := (blk_cell BK254.out 2).trans rfl
         have hfz116_0 := blk_frozen BK254.out 0
         have hfz116_1 := blk_frozen BK254.out 1
         have hfz116_2 := blk_frozen BK254.out 2
         have hnb117 := NB245_0.out
         have hnc117 := NB0_245.out
         have hcz118_0 : w113.cell? ⟨gb245, 0, none⟩ = some (.slice none 0 0) := (blk_cell BK245.out 0).trans rfl
         have hcz118_1 : w113.cell? ⟨gb245, 1, none⟩ = some (.slice none 0 0) := (blk_cell BK245.out 1).trans rfl
         have hcz118_2 : w113.cell? ⟨gb245, 2, none⟩ = some (.int .i64 0) := (blk_cell BK245.out 2).trans rfl
         have hfz118_0 := blk_frozen BK245.out 0
         have hfz118_1 := blk_frozen BK245.out 1
         have hfz118_2 := blk_frozen BK245.out 2
         try go_wp2
         refine bodyPost_ret (results_cell_row rfl _ _ gb245 25 #[.slice (some ⟨go108, 0, none⟩) t246.length co57, .slice Ao61 t249.length co61, .int .i64 t252] (0, 0) _ rfl (by (with_reducible repeat (first | refine blk_drewN ?_ _ | refine blk_drew ?_ | refine blk_alloc ?_ _)); refine blk_put (cs := #[.slice (some ⟨go108, 0, none⟩) t246.length co57, .slice Ao61 t249.length co61, .int .i64 0]) ?_ 2 _ rfl; (with_reducible repeat (first | refine blk_drewN ?_ _ | refine blk_drew ?_ | refine blk_alloc ?_ _)); refine blk_put (cs := #[.slice (some ⟨go108, 0, none⟩) t246.length co57, .slice none 0 0, .int .i64 0]) ?_ 1 _ rfl; (with_reducible repeat (first | refine blk_drewN ?_ _ | refine blk_drew ?_ | refine blk_alloc ?_ _)); refine blk_put (cs := #[.slice none 0 0, .slice none 0 0, .int .i64 0]) ?_ 0 _ rfl; (with_reducible repeat (first | refine blk_drewN ?_ _ | refine blk_drew ?_ | refine blk_alloc ?_ _)); exact BK245.out) Try.underlying25 rfl qdk6_13) rfl ?_
         exact ⟨_, _, rdk6_6, (rdk6_11 HO_255000 BK245), (rdk6_11 HO_255001 BK245), (rdk6_2 HI0 NB0_245 NB0_254), (rdk6_1 HB HI0 GE245 GE254), (rdk6_3 HK GW245 GW254)⟩
        rw [if_neg c107] at H
        exact absurd H (by simp)
       rw [if_neg c106] at H
       exact absurd H (by simp)
      rw [if_neg c103] at H
      have c103b0 : (t257 == 3) = false := beq_eq_false_iff_ne.mpr c103
      have c103b1 : (t257 != 3) = true := bne_iff_ne.mpr c103
      by_cases c119 : t257 = 4
      ·rw [if_pos c119] at H
       have c119b0 : (t257 == 4) = true := beq_iff_eq.mpr c119
       have c119b1 : (t257 != 4) = false := bne_eq_false_iff_eq.mpr c119
       clear c119
       by_cases c120 : t246.length < 17592186044416
       ·rw [if_pos c120] at H
        have LMc120 := Aside0.mk c120
        clear c120
        obtain ⟨y281, hy281⟩ : ∃ y_ : List Int, y_ = (t246 ++ [(-1)]) := ⟨_, rfl⟩
        replace H : (some (y281, t249, t252, t258)) = some (r1, r2, r3, r4) := by first | (rw [hy281]; with_reducible exact H) | (have H2_ := (Option.bind_some _ _).symm.trans H; rw [hy281]; with_reducible exact H2_) | (have H2_ := (Option.bind_some _ _).symm.trans H; with_reducible exact H2_) | with_reducible exact H | (rw [hy281]; exact H) | exact H
        have Ny281 := Aside0.mk hy281
        clear hy281
        simp only [Option.some.injEq, Prod.mk.injEq] at H
        obtain ⟨rfl, rfl, rfl, rfl⟩ := H
        have hnb121 := NB254_245.out
        have hnc121 := NB245_254.out
        have hnb122 := NB254_0.out
        have hnc122 := NB0_254.out
        have hcz123_0 : wc.cell? ⟨gb254, 0, none⟩ = some (.slice Ao57 t246.length co57) := (blk_cell BK254.out 0).trans rfl
        have hcz123_1 : wc.cell? ⟨gb254, 1, none⟩ = some (.slice Ao61 t249.length co61) := (blk_cell BK254.out 1).trans rfl
        have hcz123_2 : wc.cell? ⟨gb254, 2, none⟩ = some (.int .i64 t252) := (blk_cell BK254.out 2).trans rfl
        have hfz123_0 := blk_frozen BK254.out 0
        have hfz123_1 := blk_frozen BK254.out 1
        have hfz123_2 := blk_frozen BK254.out 2
        go_wp2_with (first | ((with_reducible refine gate_builtin (b := .append) (xs := #[.tmp 118, .tmp 119]) rfl ?_); (try (refine gate_guard (by rfl) ?_; dsimp only)); at_builtin; refine Kd.R_append (Kd.int .i64) w.heap.size rfl (.tmp 118) (.tmp 119) 22 2 (.int .i64 0) 8 rfl Try.underlying22 info2 rfl qdk6_16 (by omega) (.slice Ao57 t246.length co57) t246 (-1) [.int .i64 (-1)] (fun _ => True) (fun _ => False) rfl rfl ?aP (fun _ hk => hk.elim) ?aF ?aO (Below.refl _ _) ?aS ?aL ?_; (case aP => exact rfl); (case aF => exact (fun _ _ => trivial)); (case aO => exact (qdk6_4 HO_255000)); (case aS => exact (keep_size (w := w) (g := g) (row := none) (qdk6_2 HK GW245 GW254))); (case aL => have := LMc120.out; omega); intro v282 w124 ho hb hg hat; rw [← Ny281.out] at ho; have n0_ := Aside0.mk (Kd.R_over' (qdk6_4 HO_255001) (Kd.R_typed (qdk6_4 HO_255000)) qdk6_16 hg); have n1_ := Aside0.mk (blk_grown (g := gb245) (o := .cells #[.slice none 0 0, .slice none 0 0, .int .i64 0] 25 (0, 0)) (qdk6_1 BK245) hg (Kd.R_ne HO_255000.out BK245.out qdk6_16)); have n2_ := Aside0.mk (blk_grown (g := gb254) (o := .cells #[.slice Ao57 t246.length co57, .slice Ao61 t249.length co61, .int .i64 t252] 25 (0, 0)) (qdk6_1 BK254) hg (Kd.R_ne HO_255000.out BK254.out qdk6_16)); have n3_ := Aside0.mk (IsS94.grown (qdk6_6 NB0_245 NB0_254) hg (IsS94.own_ne HI0.out HO_255000.out qdk6_16)); have n4_ := Aside0.mk (below_weaken (qdk6_5 HB GE245 GE254) HL.out hb); have n5_ := Aside0.mk (KeepBut.trans (qdk6_2 HK GW245 GW254) (KeepBut.of_grown hg g) (Kd.R_base2 HO_255000.out)); have n6_ := Aside0.mk (ho); clear HO_255001 BK245 BK254 HI0 HB HK HO_255000; have HO_255001 := n0_; have BK245 := n1_; have BK254 := n2_; have HI0 := n3_; have HB := n4_; have HK := n5_; have HO283 := n6_; clear n0_ n1_ n2_ n3_ n4_ n5_ n6_; clear ho hb hg hat; obtain ⟨Ao125, co125, eo125⟩ := Kd.R_slice HO283.out; subst eo125; have hcz126_0 : w124.cell? ⟨gb254, 0, none⟩ = some (.slice Ao57 t246.length co57) := (blk_cell BK254.out 0).trans rfl; have hcz126_1 : w124.cell? ⟨gb254, 1, none⟩ = some (.slice Ao61 t249.length co61) := (blk_cell BK254.out 1).trans rfl; have hcz126_2 : w124.cell? ⟨gb254, 2, none⟩ = some (.int .i64 t252) := (blk_cell BK254.out 2).trans rfl; have hfz126_0 := blk_frozen BK254.out 0; have hfz126_1 := blk_frozen BK254.out 1; have hfz126_2 := blk_frozen BK254.out 2; have hnb127 := NB245_0.out; have hnc127 := NB0_245.out; have hcz128_0 : w124.cell? ⟨gb245, 0, none⟩ = some (.slice none 0 0) := (blk_cell BK245.out 0).trans rfl; have hcz128_1 : w124.cell? ⟨gb245, 1, none⟩ = some (.slice none 0 0) := (blk_cell BK245.out 1).trans rfl; have hcz128_2 : w124.cell? ⟨gb245, 2, none⟩ = some (.int .i64 0) := (blk_cell BK245.out 2).trans rfl; have hfz128_0 := blk_frozen BK245.out 0; have hfz128_1 := blk_frozen BK245.out 1; have hfz128_2 := blk_frozen BK245.out 2))
        refine bodyPost_ret (results_cell_row rfl _ _ gb245 25 #[.slice Ao125 y281.length co125, .slice Ao61 t249.length co61, .int .i64 t252] (0, 0) _ rfl (by (with_reducible repeat (first | refine blk_drewN ?_ _ | refine blk_drew ?_ | refine blk_alloc ?_ _)); refine blk_put (cs := #[.slice Ao125 y281.length co125, .slice Ao61 t249.length co61, .int .i64 0]) ?_ 2 _ rfl; (with_reducible repeat (first | refine blk_drewN ?_ _ | refine blk_drew ?_ | refine blk_alloc ?_ _)); refine blk_put (cs := #[.slice Ao125 y281.length co125, .slice none 0 0, .int .i64 0]) ?_ 1 _ rfl; (with_reducible repeat (first | refine blk_drewN ?_ _ | refine blk_drew ?_ | refine blk_alloc ?_ _)); refine blk_put (cs := #[.slice none 0 0, .slice none 0 0, .int .i64 0]) ?_ 0 _ rfl; (with_reducible repeat (first | refine blk_drewN ?_ _ | refine blk_drew ?_ | refine blk_alloc ?_ _)); refine blk_far ?_ NB245_254.out _; (with_reducible repeat (first | refine blk_drewN ?_ _ | refine blk_drew ?_ | refine blk_alloc ?_ _)); exact BK245.out) Try.underlying25 rfl qdk6_13) rfl ?_
        exact ⟨_, _, rdk6_6, (rdk6_9 HO283 BK254 BK245), (rdk6_9 HO_255001 BK254 BK245), (rdk6_2 HI0 NB0_245 NB0_254), (rdk6_1 HB HI0 GE245 GE254), (rdk6_3 HK GW245 GW254)⟩
       rw [if_neg c120] at H
       exact absurd H (by simp)
      rw [if_neg c119] at H
      have c119b0 : (t257 == 4) = false := beq_eq_false_iff_ne.mpr c119
      have c119b1 : (t257 != 4) = true := bne_iff_ne.mpr c119
      by_cases c129 : t257 = 5
      ·rw [if_pos c129] at H
       have c129b0 : (t257 == 5) = true := beq_iff_eq.mpr c129
       have c129b1 : (t257 != 5) = false := bne_eq_false_iff_eq.mpr c129
       clear c129
       by_cases c130 : t246.length + t246.length < 17592186044416
       ·rw [if_pos c130] at H
        have LMc130 := Aside0.mk c130
        clear c130
        obtain ⟨y284, hy284⟩ : ∃ y_ : List Int, y_ = (t246 ++ t246) := ⟨_, rfl⟩
        replace H : (some (y284, t249, t252, t258)) = some (r1, r2, r3, r4) := by first | (rw [hy284]; with_reducible exact H) | (have H2_ := (Option.bind_some _ _).symm.trans H; rw [hy284]; with_reducible exact H2_) | (have H2_ := (Option.bind_some _ _).symm.trans H; with_reducible exact H2_) | with_reducible exact H | (rw [hy284]; exact H) | exact H
        have Ny284 := Aside0.mk hy284
        clear hy284
        simp only [Option.some.injEq, Prod.mk.injEq] at H
        obtain ⟨rfl, rfl, rfl, rfl⟩ := H
        have hnb131 := NB254_245.out
        have hnc131 := NB245_254.out
        have hnb132 := NB254_0.out
        have hnc132 := NB0_254.out
        have hcz133_0 : wc.cell? ⟨gb254, 0, none⟩ = some (.slice Ao57 t246.length co57) := (blk_cell BK254.out 0).trans rfl
        have hcz133_1 : wc.cell? ⟨gb254, 1, none⟩ = some (.slice Ao61 t249.length co61) := (blk_cell BK254.out 1).trans rfl
        have hcz133_2 : wc.cell? ⟨gb254, 2, none⟩ = some (.int .i64 t252) := (blk_cell BK254.out 2).trans rfl
        have hfz133_0 := blk_frozen BK254.out 0
        have hfz133_1 := blk_frozen BK254.out 1
        have hfz133_2 := blk_frozen BK254.out 2
        go_wp2_with (first | ((with_reducible refine gate_builtin (b := .append) (xs := #[.tmp 125, .tmp 127]) rfl ?_); (try (refine gate_guard (by rfl) ?_; dsimp only)); at_builtin; refine Kd.R_append_rows (Kd.int .i64) w.heap.size rfl (.tmp 125) (.tmp 127) 22 2 (.int .i64 0) 8 rfl Try.underlying22 info2 rfl qdk6_16 (by omega) (.slice Ao57 t246.length co57) t246 t246 _ _ _ (fun _ => True) (fun _ => False) rfl rfl ?aO ?aR (fun _ _ h => h) (fun _ h => h.elim) ?aF (Below.refl _ _) ?aS ?aL ?_; (case aR => repeat (first | exact (Kd.R_reads' HO_255000.out).2.2 | (with_reducible refine Kd.C_alloc ?_ _) | (with_reducible refine Kd.C_drewN ?_ _) | (with_reducible refine Kd.C_drew ?_))); (case aF => exact (fun _ _ => trivial)); (case aO => exact (qdk6_4 HO_255000)); (case aS => exact (keep_size (w := w) (g := g) (row := none) (qdk6_2 HK GW245 GW254))); (case aL => have := LMc130.out; omega); intro v285 w134 ho hb hg hat; rw [← Ny284.out] at ho; have n0_ := Aside0.mk (Kd.R_over' (qdk6_4 HO_255001) (Kd.R_typed (qdk6_4 HO_255000)) qdk6_16 hg); have n1_ := Aside0.mk (blk_grown (g := gb245) (o := .cells #[.slice none 0 0, .slice none 0 0, .int .i64 0] 25 (0, 0)) (qdk6_1 BK245) hg (Kd.R_ne HO_255000.out BK245.out qdk6_16)); have n2_ := Aside0.mk (blk_grown (g := gb254) (o := .cells #[.slice Ao57 t246.length co57, .slice Ao61 t249.length co61, .int .i64 t252] 25 (0, 0)) (qdk6_1 BK254) hg (Kd.R_ne HO_255000.out BK254.out qdk6_16)); have n3_ := Aside0.mk (IsS94.grown (qdk6_6 NB0_245 NB0_254) hg (IsS94.own_ne HI0.out HO_255000.out qdk6_16)); have n4_ := Aside0.mk (below_weaken (qdk6_5 HB GE245 GE254) HL.out hb); have n5_ := Aside0.mk (KeepBut.trans (qdk6_2 HK GW245 GW254) (KeepBut.of_grown hg g) (Kd.R_base2 HO_255000.out)); have n6_ := Aside0.mk (ho); clear HO_255001 BK245 BK254 HI0 HB HK HO_255000; have HO_255001 := n0_; have BK245 := n1_; have BK254 := n2_; have HI0 := n3_; have HB := n4_; have HK := n5_; have HO286 := n6_; clear n0_ n1_ n2_ n3_ n4_ n5_ n6_; clear ho hb hg hat; obtain ⟨Ao135, co135, eo135⟩ := Kd.R_slice HO286.out; subst eo135; have hcz136_0 : w134.cell? ⟨gb254, 0, none⟩ = some (.slice Ao57 t246.length co57) := (blk_cell BK254.out 0).trans rfl; have hcz136_1 : w134.cell? ⟨gb254, 1, none⟩ = some (.slice Ao61 t249.length co61) := (blk_cell BK254.out 1).trans rfl; have hcz136_2 : w134.cell? ⟨gb254, 2, none⟩ = some (.int .i64 t252) := (blk_cell BK254.out 2).trans rfl; have hfz136_0 := blk_frozen BK254.out 0; have hfz136_1 := blk_frozen BK254.out 1; have hfz136_2 := blk_frozen BK254.out 2; have hnb137 := NB245_0.out; have hnc137 := NB0_245.out; have hcz138_0 : w134.cell? ⟨gb245, 0, none⟩ = some (.slice none 0 0) := (blk_cell BK245.out 0).trans rfl; have hcz138_1 : w134.cell? ⟨gb245, 1, none⟩ = some (.slice none 0 0) := (blk_cell BK245.out 1).trans rfl; have hcz138_2 : w134.cell? ⟨gb245, 2, none⟩ = some (.int .i64 0) := (blk_cell BK245.out 2).trans rfl; have hfz138_0 := blk_frozen BK245.out 0; have hfz138_1 := blk_frozen BK245.out 1; have hfz138_2 := blk_frozen BK245.out 2))
        refine bodyPost_ret (results_cell_row rfl _ _ gb245 25 #[.slice Ao135 y284.length co135, .slice Ao61 t249.length co61, .int .i64 t252] (0, 0) _ rfl (by (with_reducible repeat (first | refine blk_drewN ?_ _ | refine blk_drew ?_ | refine blk_alloc ?_ _)); refine blk_put (cs := #[.slice Ao135 y284.length co135, .slice Ao61 t249.length co61, .int .i64 0]) ?_ 2 _ rfl; (with_reducible repeat (first | refine blk_drewN ?_ _ | refine blk_drew ?_ | refine blk_alloc ?_ _)); refine blk_put (cs := #[.slice Ao135 y284.length co135, .slice none 0 0, .int .i64 0]) ?_ 1 _ rfl; (with_reducible repeat (first | refine blk_drewN ?_ _ | refine blk_drew ?_ | refine blk_alloc ?_ _)); refine blk_put (cs := #[.slice none 0 0, .slice none 0 0, .int .i64 0]) ?_ 0 _ rfl; (with_reducible repeat (first | refine blk_drewN ?_ _ | refine blk_drew ?_ | refine blk_alloc ?_ _)); refine blk_far ?_ NB245_254.out _; (with_reducible repeat (first | refine blk_drewN ?_ _ | refine blk_drew ?_ | refine blk_alloc ?_ _)); exact BK245.out) Try.underlying25 rfl qdk6_13) rfl ?_
        exact ⟨_, _, rdk6_6, (rdk6_10 HO286 BK254 BK245), (rdk6_10 HO_255001 BK254 BK245), (rdk6_2 HI0 NB0_245 NB0_254), (rdk6_1 HB HI0 GE245 GE254), (rdk6_3 HK GW245 GW254)⟩
       rw [if_neg c130] at H
       exact absurd H (by simp)
      rw [if_neg c129] at H
      have c129b0 : (t257 == 5) = false := beq_eq_false_iff_ne.mpr c129
      have c129b1 : (t257 != 5) = true := bne_iff_ne.mpr c129
      simp only [Option.some.injEq, Prod.mk.injEq] at H
      obtain ⟨rfl, rfl, rfl, rfl⟩ := H
      have hnb139 := NB245_254.out
      have hnc139 := NB254_245.out
      have hnb140 := NB245_0.out
      have hnc140 := NB0_245.out
      have hcz141_0 : wc.cell? ⟨gb245, 0, none⟩ = some (.slice none 0 0) := (blk_cell BK245.out 0).trans rfl
      have hcz141_1 : wc.cell? ⟨gb245, 1, none⟩ = some (.slice none 0 0) := (blk_cell BK245.out 1).trans rfl
      have hcz141_2 : wc.cell? ⟨gb245, 2, none⟩ = some (.int .i64 0) := (blk_cell BK245.out 2).trans rfl
      have hfz141_0 := blk_frozen BK245.out 0
      have hfz141_1 := blk_frozen BK245.out 1
      have hfz141_2 := blk_frozen BK245.out 2
      go_wp2
      refine bodyPost_ret (results_cell_row rfl _ _ gb245 25 #[.slice none 0 0, .slice none 0 0, .int .i64 0] (0, 0) _ rfl (by (with_reducible repeat (first | refine blk_drewN ?_ _ | refine blk_drew ?_ | refine blk_alloc ?_ _)); refine blk_put (cs := #[.slice none 0 0, .slice none 0 0, .int .i64 0]) ?_ 2 _ rfl; (with_reducible repeat (first | refine blk_drewN ?_ _ | refine blk_drew ?_ | refine blk_alloc ?_ _)); refine blk_put (cs := #[.slice none 0 0, .slice none 0 0, .int .i64 0]) ?_ 1 _ rfl; (with_reducible repeat (first | refine blk_drewN ?_ _ | refine blk_drew ?_ | refine blk_alloc ?_ _)); refine blk_put (cs := #[.slice none 0 0, .slice none 0 0, .int .i64 0]) ?_ 0 _ rfl; (with_reducible repeat (first | refine blk_drewN ?_ _ | refine blk_drew ?_ | refine blk_alloc ?_ _)); exact BK245.out) Try.underlying25 rfl qdk6_13) rfl ?_
      exact ⟨_, _, rdk6_6, (by first | exact Kd.R_nil _ _ _ _ _ | exact Kd.N_nil _ _ _ _ _ | exact Kd.V_nil _ _ _ _ _ | exact Kd.Q_nil _ _ _ _ _ | exact Kd.S_nil _ _ _ _ _), (by first | exact Kd.R_nil _ _ _ _ _ | exact Kd.N_nil _ _ _ _ _ | exact Kd.V_nil _ _ _ _ _ | exact Kd.Q_nil _ _ _ _ _ | exact Kd.S_nil _ _ _ _ _), (rdk6_2 HI0 NB0_245 NB0_254), (rdk6_1 HB HI0 GE245 GE254), (rdk6_3 HK GW245 GW254)⟩
 replace c4 := Bool.eq_false_iff.mpr c4
 subst c4
 have H1 : (some (t246, t249, t252, t256)) = some (r1, r2, r3, r4) := by rw [if_neg (show ¬ (false = true) by decide)] at H; exact H
 clear H
 have H := H1
 clear H1
 simp only [Option.some.injEq, Prod.mk.injEq] at H
 obtain ⟨rfl, rfl, rfl, rfl⟩ := H
 go_enter Try.func75, Try.ntmps75
 go_wp2_with (first | ((with_reducible refine gate_dst (N := 2) rfl ?_); (try (refine gate_guard (by rfl) ?_; dsimp only)); refine box_event ?hg (N := 2) ?hd (cs := #[.slice none 0 0, .slice none 0 0, .int .i64 0]) (t := 25) ?hr ?_; (case hd => rfl); (case hg => rfl); (case hr => exact qdk6_23); intro gb245 hg w142 hbox hb; have n0_ := Aside0.mk (IsS94.below qdk6_18 hb); have n1_ := Aside0.mk (KeepBut.trans (qdk6_8 HK) (KeepBut.of_below hb g none) (.inl rfl)); have n2_ := Aside0.mk (below_step (qdk6_17 HB) hb); have n3_ := Aside0.mk (hbox); have n4_ := Aside0.mk ((by rw [hg]; exact (keep_size (w := w) (g := g) (row := none) (qdk6_8 HK)) : w.heap.size ≤ gb245)); have n5_ := Aside0.mk ((Nat.le_trans HW0.out (by rw [hg]; exact (keep_size (w := w) (g := g) (row := none) (qdk6_8 HK)) : w.heap.size ≤ gb245) : w0.heap.size ≤ gb245)); have n6_ := Aside0.mk ((by rw [hg]; exact Nat.ne_of_lt (IsS94.lt (show IsS94 w0 _ g s0_0 s0_1 from by repeat (first | (with_reducible first | exact HI0.out | apply IsS94.alloc | apply IsS94.drewN | apply IsS94.drew | apply IsS94.set_1) | exact HI0.out))) : g ≠ gb245)); have n7_ := Aside0.mk ((by rw [hg]; exact Nat.ne_of_gt (IsS94.lt (show IsS94 w0 _ g s0_0 s0_1 from by repeat (first | (with_reducible first | exact HI0.out | apply IsS94.alloc | apply IsS94.drewN | apply IsS94.drew | apply IsS94.set_1) | exact HI0.out))) : gb245 ≠ g)); clear HI0 HK HB; have HI0 := n0_; have HK := n1_; have HB := n2_; have BK245 := n3_; have GW245 := n4_; have GE245 := n5_; have NB0_245 := n6_; have NB245_0 := n7_; clear n0_ n1_ n2_ n3_ n4_ n5_ n6_ n7_; clear hb hbox hg) | ((with_reducible refine gate_callee (f := 77) rfl ?_); refine goesL_ (some 8) rfl rfl Try.func77 qdk6_13 rfl #[.pointer (some ⟨g, 0, none⟩)] rfl qdk6_7 ?_; (with_reducible refine (spec_l7Draw.calls k g s0_0 s0_1 t246 t249 t252 t253 w0 _ ?side1 ?side2 A2.out).mono ?_); (case side1 => exact (qdk6_11 NB0_245)); (case side2 => exact (qdk6_10 HB GE245)); rintro e w143 ⟨v247, v250, rfl, ho0, ho1, hi, hb, hk⟩; refine ⟨_, rfl, ?_⟩; have n0_ := Aside0.mk (KeepBut.blk hk (g' := gb245) (o := .cells #[.slice none 0 0, .slice none 0 0, .int .i64 0] 25 (0, 0)) (qdk6_1 BK245) NB245_0.out (by simp)); have n1_ := Aside0.mk (Kd.R_lower ho0 (keep_size (w := w) (g := g) (row := none) (qdk6_3 HK GW245))); have n2_ := Aside0.mk (Kd.R_lower ho1 (keep_size (w := w) (g := g) (row := none) (qdk6_3 HK GW245))); have n3_ := Aside0.mk (KeepBut.trans (qdk6_3 HK GW245) hk (.inl rfl)); have n4_ := Aside0.mk (hb); have n5_ := Aside0.mk (hi); clear BK245 HK HB HI0; have BK245 := n0_; have HO248 := n1_; have HO251 := n2_; have HK := n3_; have HB := n4_; have HI0 := n5_; clear n0_ n1_ n2_ n3_ n4_ n5_; (try clear hb); (try clear hb2); (try clear hk); (try clear hi); (try clear ho0); (try clear ho1)) | ((with_reducible refine gate_dst (N := 3) rfl ?_); (try (refine gate_guard (by rfl) ?_; dsimp only)); refine box_event ?hg (N := 3) ?hd (cs := #[.slice none 0 0, .slice none 0 0, .int .i64 0]) (t := 25) ?hr ?_; (case hd => rfl); (case hg => rfl); (case hr => exact qdk6_23); intro gb254 hg w144 hbox hb; have n0_ := Aside0.mk (Kd.R_below (qdk6_4 HO248) hb); have n1_ := Aside0.mk (Kd.R_below (qdk6_4 HO251) hb); have n2_ := Aside0.mk (IsS94.below (qdk6_11 NB0_245) hb); have n3_ := Aside0.mk (blk_below (qdk6_1 BK245) hb); have n4_ := Aside0.mk (KeepBut.trans (qdk6_3 HK GW245) (KeepBut.of_below hb g none) (.inl rfl)); have n5_ := Aside0.mk (below_step (qdk6_10 HB GE245) hb); have n6_ := Aside0.mk (hbox); have n7_ := Aside0.mk ((by rw [hg]; exact (keep_size (w := w) (g := g) (row := none) (qdk6_3 HK GW245)) : w.heap.size ≤ gb254)); have n8_ := Aside0.mk ((Nat.le_trans HW0.out (by rw [hg]; exact (keep_size (w := w) (g := g) (row := none) (qdk6_3 HK GW245)) : w.heap.size ≤ gb254) : w0.heap.size ≤ gb254)); have n9_ := Aside0.mk ((qnl_pdkx6 BK245 hg : gb245 ≠ gb254)); have n10_ := Aside0.mk ((qng_pdkx6 BK245 hg : gb254 ≠ gb245)); have n11_ := Aside0.mk ((by rw [hg]; exact Nat.ne_of_lt (IsS94.lt (show IsS94 w0 _ g s0_0 t253 from by repeat (first | (with_reducible first | exact HI0.out | apply IsS94.alloc | apply IsS94.drewN | apply IsS94.drew | apply IsS94.set_1 | refine IsS94.far ?_ NB0_245.out _) | exact HI0.out))) : g ≠ gb254)); have n12_ := Aside0.mk ((by rw [hg]; exact Nat.ne_of_gt (IsS94.lt (show IsS94 w0 _ g s0_0 t253 from by repeat (first | (with_reducible first | exact HI0.out | apply IsS94.alloc | apply IsS94.drewN | apply IsS94.drew | apply IsS94.set_1 | refine IsS94.far ?_ NB0_245.out _) | exact HI0.out))) : gb254 ≠ g)); clear HO248 HO251 HI0 BK245 HK HB; have HO248 := n0_; have HO251 := n1_; have HI0 := n2_; have BK245 := n3_; have HK := n4_; have HB := n5_; have BK254 := n6_; have GW254 := n7_; have GE254 := n8_; have NB245_254 := n9_; have NB254_245 := n10_; have NB0_254 := n11_; have NB254_0 := n12_; clear n0_ n1_ n2_ n3_ n4_ n5_ n6_ n7_ n8_ n9_ n10_ n11_ n12_; clear hb hbox hg; obtain ⟨Ao145, co145, eo145⟩ := Kd.R_slice HO248.out; subst eo145; have hnb146 := NB254_245.out; have hnc146 := NB245_254.out; have hnb147 := NB254_0.out; have hnc147 := NB0_254.out; have hcz148_0 : w144.cell? ⟨gb254, 0, none⟩ = some (.slice none 0 0) := (blk_cell BK254.out 0).trans rfl; have hcz148_1 : w144.cell? ⟨gb254, 1, none⟩ = some (.slice none 0 0) := (blk_cell BK254.out 1).trans rfl; have hcz148_2 : w144.cell? ⟨gb254, 2, none⟩ = some (.int .i64 0) := (blk_cell BK254.out 2).trans rfl; have hfz148_0 := blk_frozen BK254.out 0; have hfz148_1 := blk_frozen BK254.out 1; have hfz148_2 := blk_frozen BK254.out 2; obtain ⟨Ao149, co149, eo149⟩ := Kd.R_slice HO251.out; subst eo149) | ((with_reducible refine gate_callee (f := 46) rfl ?_); refine goesL_ (some 10) rfl rfl Try.func46 qdk6_13 rfl #[.pointer (some ⟨g, 0, none⟩), .int .i64 4] rfl qdk6_7 ?_; (with_reducible refine (spec_l1Rd_once.calls g s0_0 t253 4 false t256 w0 _ ?side1 ?side2 A3.out).mono ?_); (case side1 => exact (qdk6_6 NB0_245 NB0_254)); (case side2 => exact (qdk6_5 HB GE245 GE254)); rintro e w150 ⟨rfl, hi, hb, hk⟩; refine ⟨_, rfl, ?_⟩; have n0_ := Aside0.mk (KeepBut.blk hk (g' := gb245) (o := .cells #[.slice none 0 0, .slice none 0 0, .int .i64 0] 25 (0, 0)) (qdk6_9 NB245_254 BK245) NB245_0.out (by simp)); have n1_ := Aside0.mk (Kd.R_mono (Kd.R_keep (IsS94.apart (show IsS94 w0 _ g s0_0 t253 from by repeat (first | (with_reducible first | exact HI0.out | apply IsS94.alloc | apply IsS94.drewN | apply IsS94.drew | apply IsS94.set_1 | refine IsS94.far ?_ NB0_245.out _ | refine IsS94.far ?_ NB0_254.out _) | exact HI0.out)) (qdk6_19 HO248 BK254) qdk6_16) hk (fun _ h => h.2)) (fun _ h => h.1)); have n2_ := Aside0.mk (Kd.R_mono (Kd.R_keep (IsS94.apart (show IsS94 w0 _ g s0_0 t253 from by repeat (first | (with_reducible first | exact HI0.out | apply IsS94.alloc | apply IsS94.drewN | apply IsS94.drew | apply IsS94.set_1 | refine IsS94.far ?_ NB0_245.out _ | refine IsS94.far ?_ NB0_254.out _) | exact HI0.out)) (qdk6_19 HO251 BK254) qdk6_16) hk (fun _ h => h.2)) (fun _ h => h.1)); have n3_ := Aside0.mk (KeepBut.blk hk (g' := gb254) (o := .cells #[.slice Ao145 t246.length co145, .slice Ao149 t249.length co149, .int .i64 t252] 25 (0, 0)) (qdk6_15 BK254) NB254_0.out (by simp)); have n4_ := Aside0.mk (KeepBut.trans (qdk6_2 HK GW245 GW254) hk (.inl rfl)); have n5_ := Aside0.mk (hb); have n6_ := Aside0.mk (hi); clear BK245 HO248 HO251 BK254 HK HB HI0; have BK245 := n0_; have HO248 := n1_; have HO251 := n2_; have BK254 := n3_; have HK := n4_; have HB := n5_; have HI0 := n6_; clear n0_ n1_ n2_ n3_ n4_ n5_ n6_; (try clear hb); (try clear hb2); (try clear hk); (try clear hi); have hcz151_0 : w150.cell? ⟨gb254, 0, none⟩ = some (.slice Ao145 t246.length co145) := (blk_cell BK254.out 0).trans rfl; have hcz151_1 : w150.cell? ⟨gb254, 1, none⟩ = some (.slice Ao149 t249.length co149) := (blk_cell BK254.out 1).trans rfl; have hcz151_2 : w150.cell? ⟨gb254, 2, none⟩ = some (.int .i64 t252) := (blk_cell BK254.out 2).trans rfl; have hfz151_0 := blk_frozen BK254.out 0; have hfz151_1 := blk_frozen BK254.out 1; have hfz151_2 := blk_frozen BK254.out 2; have hnb152 := NB245_0.out; have hnc152 := NB0_245.out; have hcz153_0 : w150.cell? ⟨gb245, 0, none⟩ = some (.slice none 0 0) := (blk_cell BK245.out 0).trans rfl; have hcz153_1 : w150.cell? ⟨gb245, 1, none⟩ = some (.slice none 0 0) := (blk_cell BK245.out 1).trans rfl; have hcz153_2 : w150.cell? ⟨gb245, 2, none⟩ = some (.int .i64 0) := (blk_cell BK245.out 2).trans rfl; have hfz153_0 := blk_frozen BK245.out 0; have hfz153_1 := blk_frozen BK245.out 1; have hfz153_2 := blk_frozen BK245.out 2))
 refine bodyPost_ret (results_cell_row rfl _ _ gb245 25 #[.slice Ao145 t246.length co145, .slice Ao149 t249.length co149, .int .i64 t252] (0, 0) _ rfl (qdk6_15 BK245) Try.underlying25 rfl qdk6_13) rfl ?_
 exact ⟨_, _, rdk6_6, (rdk6_15 HO248 BK245), (rdk6_15 HO251 BK245), (rdk6_2 HI0 NB0_245 NB0_254), (rdk6_1 HB HI0 GE245 GE254), (rdk6_3 HK GW245 GW254)⟩
end Go.Proofs.Ytohilfkdfcihgaa.PDi
