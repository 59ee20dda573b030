/- Go functions as Lean functions, and that each Go function comes to just that; printed by a program of this session (gprint.py over the kit's print.py). No condition. -/
import Derived.Test.YtohilfkdfcihgaaPDky0
import Derived.Test.YtohilfkdfcihgaaPDkx1
import Derived.Test.YtohilfkdfcihgaaPDkx7
import Derived.Test.YtohilfkdfcihgaaPDkx8
import Derived.Test.YtohilfkdfcihgaaGCut
import Derived.Test.YtohilfkdfcihgaaGDictOk
import Derived.Test.YtohilfkdfcihgaaGPut
import Derived.Test.YtohilfkdfcihgaaPDix17
import Derived.Test.YtohilfkdfcihgaaPDix5
namespace Go.Proofs.Ytohilfkdfcihgaa.PDi
open Go.RowKit Go.Proofs.YtohilfkdfcihgaaW.PrintWords Go.Proofs.YtohilfkdfcihgaaW.PrintLast Go.Proofs.YtohilfkdfcihgaaW.PrintMore
attribute [local go_sem] max2_int min2_int max_two min_two max_three min_three max_four min_four   -- for this text's walks alone
set_option linter.unusedVariables false
set_option linter.unusedSimpArgs false

theorem hbc_pdkx9 {w w1 : World} {a : Addr} {v : Value} (hb : Below w.heap.size w w1) (h : w.cell? a = some v) : w1.cell? a = some v := (hb.cell (World.block_lt_of_cell? _ _ h)).trans h
theorem qpa_pdkx9 {P : Prop} (h : P := by simp only [Act.put, List.setIfInBounds_toArray, List.set_cons_zero, List.set_cons_succ, i64_w, i32_w]; rfl) : P := h
theorem qnl_pdkx9 {w : World} {g n : Nat} {cs : Array Value} {t : TypeId} {fr : Nat × Nat} {Q : Prop} (y : Q) (hg : n = w.heap.size) (h : Q → w.heap[g]? = some (.cells cs t fr) := by intro y_; (with_reducible repeat (first | refine blk_drewN ?_ _ | refine blk_drew ?_ | refine blk_alloc ?_ _)); exact y_.out) : g ≠ n := by
  rw [hg]; exact Nat.ne_of_lt (blk_lt (h y))
theorem qng_pdkx9 {w : World} {g n : Nat} {cs : Array Value} {t : TypeId} {fr : Nat × Nat} {Q : Prop} (y : Q) (hg : n = w.heap.size) (h : Q → w.heap[g]? = some (.cells cs t fr) := by intro y_; (with_reducible repeat (first | refine blk_drewN ?_ _ | refine blk_drew ?_ | refine blk_alloc ?_ _)); exact y_.out) : n ≠ g := by
  rw [hg]; exact Nat.ne_of_gt (blk_lt (h y))
theorem qpy_pdkx9 {P : Prop} (h : P := by intro w'; go_simp; with_reducible rfl) : P := h
theorem qpt11_pdkx9 {P : Prop} (h : P := by rintro w' ⟨s0, s1, s2, s3, s4, s5, s6, s7, s8, s9, s10⟩; go_simp; with_reducible rfl) : P := h
theorem rdk9_1 {P Q0 : Prop} (y0 : Q0) (h : Q0 → P := by intro y0_; (with_reducible repeat (first | refine blk_drewN ?_ _ | refine blk_drew ?_ | refine blk_alloc ?_ _)); exact y0_.out) : P := h y0
theorem rdk9_2 {P Q0 : Prop} (y0 : Q0) (h : Q0 → P := by intro y0_; (with_reducible repeat (first | apply Kd.R_alloc | apply Kd.R_drewN | apply Kd.R_drew)); exact y0_.out) : P := h y0
theorem rdk9_3 {P Q0 Q1 : Prop} (y0 : Q0) (y1 : Q1) (h : Q0 → Q1 → P := by intro y0_ y1_; (with_reducible repeat (first | refine blk_drewN ?_ _ | refine blk_drew ?_ | refine blk_alloc ?_ _)); refine blk_far ?_ y0_.out _; (with_reducible repeat (first | refine blk_drewN ?_ _ | refine blk_drew ?_ | refine blk_alloc ?_ _)); refine blk_far ?_ y0_.out _; (with_reducible repeat (first | refine blk_drewN ?_ _ | refine blk_drew ?_ | refine blk_alloc ?_ _)); refine blk_far ?_ y0_.out _; (with_reducible repeat (first | refine blk_drewN ?_ _ | refine blk_drew ?_ | refine blk_alloc ?_ _)); refine blk_far ?_ y0_.out _; (with_reducible repeat (first | refine blk_drewN ?_ _ | refine blk_drew ?_ | refine blk_alloc ?_ _)); exact y1_.out) : P := h y0 y1
theorem rdk9_4 {P Q0 Q1 : Prop} (y0 : Q0) (y1 : Q1) (h : Q0 → Q1 → P := by intro y0_ y1_; (with_reducible repeat (first | apply Kd.R_alloc | apply Kd.R_drewN | apply Kd.R_drew)); exact Kd.R_mono (Kd.R_far (p := ⟨gb392, 3, none⟩) (Kd.R_far (p := ⟨gb392, 2, none⟩) (Kd.R_far (p := ⟨gb392, 1, none⟩) (Kd.R_far (p := ⟨gb392, 0, none⟩) (Kd.R_types y0_.out y1_.out (by decide)) (fun _ hk => hk.2) (.int .u64 ((rd_T62 t345 x16_4).f0))) (fun _ hk => hk.2) (.int .i64 ((rd_T62 t345 x16_4).f1))) (fun _ hk => hk.2) (.int .i64 ((rd_T62 t345 x16_4).f2))) (fun _ hk => hk.2) (.bool false)) (fun _ hk => ⟨hk.1.1, ⟨hk.1.2.1, hk.1.2.2⟩⟩)) : P := h y0 y1
theorem rdk9_5 {P Q0 Q1 : Prop} (y0 : Q0) (y1 : Q1) (h : Q0 → Q1 → P := by intro y0_ y1_; (with_reducible repeat (first | apply Kd.R_alloc | apply Kd.R_drewN | apply Kd.R_drew)); exact Kd.R_mono (Kd.R_far (p := ⟨gb392, 3, none⟩) (Kd.R_far (p := ⟨gb392, 2, none⟩) (Kd.R_far (p := ⟨gb392, 1, none⟩) (Kd.R_far (p := ⟨gb392, 0, none⟩) (Kd.R_types y0_.out y1_.out (by decide)) (fun _ hk => hk.2) (.int .u64 ((rd_T62 t345 x16_4).f0))) (fun _ hk => hk.2) (.int .i64 ((rd_T62 t345 x16_4).f1))) (fun _ hk => hk.2) (.int .i64 ((rd_T62 t345 x16_4).f2))) (fun _ hk => hk.2) (.bool true)) (fun _ hk => ⟨hk.1.1, ⟨hk.1.2.1, hk.1.2.2⟩⟩)) : P := h y0 y1
theorem rdk9_6 {P Q0 : Prop} (y0 : Q0) (h : Q0 → P := by intro y0_; (with_reducible repeat (first | apply Kd.R_alloc | apply Kd.R_drewN | apply Kd.R_drew)); exact Kd.R_mono y0_.out (fun _ hk => hk.2)) : P := h y0
theorem rdk9_7 {P Q0 Q1 Q2 Q3 : Prop} (y0 : Q0) (y1 : Q1) (y2 : Q2) (y3 : Q3) (h : Q0 → Q1 → Q2 → Q3 → P := by intro y0_ y1_ y2_ y3_; repeat (first | (with_reducible first | exact y0_.out | apply below_alloc | apply pw_below_drewN | apply below_drew1 | refine below_set ?_ y1_.out | refine below_set ?_ y2_.out | refine below_set ?_ y3_.out) | exact y0_.out)) : P := h y0 y1 y2 y3
theorem rdk9_8 {P Q0 : Prop} (y0 : Q0) (h : Q0 → P := by intro y0_; (with_reducible repeat (first | apply Kd.R_alloc | apply Kd.R_drewN | apply Kd.R_drew)); exact Kd.R_mono (Kd.R_far (p := ⟨gb392, 3, none⟩) (Kd.R_far (p := ⟨gb392, 2, none⟩) (Kd.R_far (p := ⟨gb392, 1, none⟩) (Kd.R_far (p := ⟨gb392, 0, none⟩) (Kd.R_mono y0_.out (fun k_ hk => (⟨hk, hk.2⟩ : _ ∧ k_ ≠ gb392))) (fun _ hk => hk.2) (.int .u64 ((rd_T62 t345 x16_4).f0))) (fun _ hk => hk.2) (.int .i64 ((rd_T62 t345 x16_4).f1))) (fun _ hk => hk.2) (.int .i64 ((rd_T62 t345 x16_4).f2))) (fun _ hk => hk.2) (.bool false)) (fun _ hk => ⟨hk.1.1.1, hk.1.1.2⟩)) : P := h y0
theorem rdk9_9 {P Q0 : Prop} (y0 : Q0) (h : Q0 → P := by intro y0_; (with_reducible repeat (first | apply Kd.R_alloc | apply Kd.R_drewN | apply Kd.R_drew)); exact Kd.R_mono (Kd.R_far (p := ⟨gb392, 3, none⟩) (Kd.R_far (p := ⟨gb392, 2, none⟩) (Kd.R_far (p := ⟨gb392, 1, none⟩) (Kd.R_far (p := ⟨gb392, 0, none⟩) (Kd.R_mono y0_.out (fun k_ hk => (⟨hk, hk.2⟩ : _ ∧ k_ ≠ gb392))) (fun _ hk => hk.2) (.int .u64 ((rd_T62 t345 x16_4).f0))) (fun _ hk => hk.2) (.int .i64 ((rd_T62 t345 x16_4).f1))) (fun _ hk => hk.2) (.int .i64 ((rd_T62 t345 x16_4).f2))) (fun _ hk => hk.2) (.bool true)) (fun _ hk => ⟨hk.1.1.1, hk.1.1.2⟩)) : P := h y0
theorem rdk9_10 {P Q0 Q1 Q2 : Prop} (y0 : Q0) (y1 : Q1) (y2 : Q2) (h : Q0 → Q1 → Q2 → P := by intro y0_ y1_ y2_; repeat (first | (with_reducible first | exact y0_.out | apply below_alloc | apply pw_below_drewN | apply below_drew1 | refine below_set ?_ y1_.out | refine below_set ?_ y2_.out) | exact y0_.out)) : P := h y0 y1 y2
theorem rdk9_11 {P Q0 : Prop} (y0 : Q0) (h : Q0 → P := by intro y0_; (with_reducible repeat (first | apply Kd.R_alloc | apply Kd.R_drewN | apply Kd.R_drew)); exact Kd.R_mono y0_.out (fun _ hk => ⟨hk.2, ⟨hk.1.1, hk.1.2.1⟩⟩)) : P := h y0
theorem rdk9_12 {P Q0 : Prop} (y0 : Q0) (h : Q0 → P := by intro y0_; (with_reducible repeat (first | apply Kd.R_alloc | apply Kd.R_drewN | apply Kd.R_drew)); exact Kd.R_mono y0_.out (fun _ hk => ⟨hk.1.1, hk.1.2⟩)) : P := h y0
theorem rdk9_13 {P Q0 : Prop} (y0 : Q0) (h : Q0 → P := by intro y0_; (with_reducible repeat (first | apply Kd.R_alloc | apply Kd.R_drewN | apply Kd.R_drew)); exact Kd.R_mono y0_.out (fun _ hk => ⟨hk.1.2, hk.2⟩)) : P := h y0
theorem rdk9_14 {P Q0 Q1 Q2 Q3 Q4 : Prop} (y0 : Q0) (y1 : Q1) (y2 : Q2) (y3 : Q3) (y4 : Q4) (h : Q0 → Q1 → Q2 → Q3 → Q4 → P := by intro y0_ y1_ y2_ y3_ y4_; repeat (first | (with_reducible first | exact y0_.out | apply below_alloc | apply pw_below_drewN | apply below_drew1 | refine below_set ?_ y1_.out | refine below_set ?_ y2_.out | refine below_set ?_ y3_.out | refine below_set ?_ y4_.out) | exact y0_.out)) : P := h y0 y1 y2 y3 y4
theorem rdk9_15 {P Q0 : Prop} (y0 : Q0) (h : Q0 → P := by intro y0_; (with_reducible repeat (first | apply Kd.R_alloc | apply Kd.R_drewN | apply Kd.R_drew)); exact Kd.R_mono y0_.out (fun _ hk => ⟨hk.1.1, ⟨hk.2, ⟨hk.1.2.1, hk.1.2.2.1⟩⟩⟩)) : P := h y0
theorem rdk9_16 {P Q0 : Prop} (y0 : Q0) (h : Q0 → P := by intro y0_; (with_reducible repeat (first | apply Kd.R_alloc | apply Kd.R_drewN | apply Kd.R_drew)); exact Kd.R_mono y0_.out (fun _ hk => ⟨hk.1.1, ⟨hk.2, ⟨hk.1.2.1, hk.1.2.2⟩⟩⟩)) : P := h y0
theorem rdk9_17 {P Q0 : Prop} (y0 : Q0) (h : Q0 → P := by intro y0_; (with_reducible repeat (first | apply Kd.R_alloc | apply Kd.R_drewN | apply Kd.R_drew)); exact Kd.R_mono y0_.out (fun _ hk => ⟨hk.2, ⟨hk.1.1, hk.1.2⟩⟩)) : P := h y0
theorem qdk9_1 {P Q0 : Prop} (y0 : Q0) (h : Q0 → P := by intro y0_; (with_reducible repeat (first | apply Kd.R_alloc | apply Kd.R_drewN | apply Kd.R_drew)); exact y0_.out) : P := h y0
theorem qdk9_2 {P Q0 : Prop} (y0 : Q0) (h : Q0 → P := by intro y0_; (with_reducible repeat (first | refine blk_drewN ?_ _ | refine blk_drew ?_ | refine blk_alloc ?_ _)); exact y0_.out) : P := h y0
theorem qdk9_3 {P Q0 Q1 : Prop} (y0 : Q0) (y1 : Q1) (h : Q0 → Q1 → P := by intro y0_ y1_; (with_reducible repeat (first | apply Kd.R_alloc | apply Kd.R_drewN | apply Kd.R_drew)); exact (Kd.R_mono (Kd.R_far (p := ⟨gb392, 3, none⟩) (Kd.R_far (p := ⟨gb392, 2, none⟩) (Kd.R_far (p := ⟨gb392, 1, none⟩) (Kd.R_far (p := ⟨gb392, 0, none⟩) (Kd.R_types y0_.out y1_.out (by decide)) (fun _ hk => hk.2) (.int .u64 ((rd_T62 t345 x16_4).f0))) (fun _ hk => hk.2) (.int .i64 ((rd_T62 t345 x16_4).f1))) (fun _ hk => hk.2) (.int .i64 ((rd_T62 t345 x16_4).f2))) (fun _ hk => hk.2) (.bool false)) (fun _ h_ => h_.1))) : P := h y0 y1
theorem qdk9_4 {P Q0 Q1 Q2 Q3 : Prop} (y0 : Q0) (y1 : Q1) (y2 : Q2) (y3 : Q3) (h : Q0 → Q1 → Q2 → Q3 → P := by intro y0_ y1_ y2_ y3_; repeat (first | (with_reducible first | exact y0_.out | apply below_alloc | apply pw_below_drewN | apply below_drew1 | refine below_set ?_ y1_.out | refine below_set ?_ y2_.out | refine below_set ?_ y3_.out) | exact y0_.out)) : P := h y0 y1 y2 y3
theorem qdk9_5 {P Q0 Q1 : Prop} (y0 : Q0) (y1 : Q1) (h : Q0 → Q1 → P := by intro y0_ y1_; (with_reducible repeat (first | refine blk_drewN ?_ _ | refine blk_drew ?_ | refine blk_alloc ?_ _)); refine blk_far ?_ y0_.out _; (with_reducible repeat (first | refine blk_drewN ?_ _ | refine blk_drew ?_ | refine blk_alloc ?_ _)); refine blk_far ?_ y0_.out _; (with_reducible repeat (first | refine blk_drewN ?_ _ | refine blk_drew ?_ | refine blk_alloc ?_ _)); refine blk_far ?_ y0_.out _; (with_reducible repeat (first | refine blk_drewN ?_ _ | refine blk_drew ?_ | refine blk_alloc ?_ _)); refine blk_far ?_ y0_.out _; (with_reducible repeat (first | refine blk_drewN ?_ _ | refine blk_drew ?_ | refine blk_alloc ?_ _)); exact y1_.out) : P := h y0 y1
theorem qdk9_6 {P Q0 Q1 : Prop} (y0 : Q0) (y1 : Q1) (h : Q0 → Q1 → P := by intro y0_ y1_; (with_reducible repeat (first | apply Kd.R_alloc | apply Kd.R_drewN | apply Kd.R_drew)); exact (Kd.R_mono (Kd.R_far (p := ⟨gb384, 2, none⟩) (Kd.R_far (p := ⟨gb384, 1, none⟩) (Kd.R_far (p := ⟨gb384, 0, none⟩) (Kd.R_types y0_.out y1_.out (by decide)) (fun _ hk => hk.2) (.slice Ao54 t376.length co54)) (fun _ hk => hk.2) (.slice Ao58 t379.length co58)) (fun _ hk => hk.2) (.int .i64 t382)) (fun _ h_ => h_.1))) : P := h y0 y1
theorem qdk9_7 {P Q0 : Prop} (y0 : Q0) (h : Q0 → P := by intro y0_; (with_reducible repeat (first | apply Kd.R_alloc | apply Kd.R_drewN | apply Kd.R_drew)); exact (Kd.R_mono (Kd.R_far (p := ⟨gb392, 3, none⟩) (Kd.R_far (p := ⟨gb392, 2, none⟩) (Kd.R_far (p := ⟨gb392, 1, none⟩) (Kd.R_far (p := ⟨gb392, 0, none⟩) (Kd.R_mono y0_.out (fun k_ hk => (⟨hk, hk.2⟩ : _ ∧ k_ ≠ gb392))) (fun _ hk => hk.2) (.int .u64 ((rd_T62 t345 x16_4).f0))) (fun _ hk => hk.2) (.int .i64 ((rd_T62 t345 x16_4).f1))) (fun _ hk => hk.2) (.int .i64 ((rd_T62 t345 x16_4).f2))) (fun _ hk => hk.2) (.bool false)) (fun _ h_ => h_.1))) : P := h y0
theorem qdk9_8 {P Q0 Q1 Q2 : Prop} (y0 : Q0) (y1 : Q1) (y2 : Q2) (h : Q0 → Q1 → Q2 → P := by intro y0_ y1_ y2_; repeat (first | (with_reducible first | exact y0_.out | apply below_alloc | apply pw_below_drewN | apply below_drew1 | refine below_set ?_ y1_.out | refine below_set ?_ y2_.out) | exact y0_.out)) : P := h y0 y1 y2
theorem qdk9_9 {P Q0 : Prop} (y0 : Q0) (h : Q0 → P := by intro y0_; repeat (first | exact (Kd.R_reads' y0_.out).2.2 | (with_reducible refine Kd.C_alloc ?_ _) | (with_reducible refine Kd.C_drewN ?_ _) | (with_reducible refine Kd.C_drew ?_))) : P := h y0
theorem qdk9_10 {P Q0 Q1 : Prop} (y0 : Q0) (y1 : Q1) (h : Q0 → Q1 → P := by intro y0_ y1_; (with_reducible repeat (first | apply Kd.R_alloc | apply Kd.R_drewN | apply Kd.R_drew)); exact (Kd.R_mono (Kd.R_far (p := ⟨gb352, 2, none⟩) (Kd.R_far (p := ⟨gb352, 1, none⟩) (Kd.R_far (p := ⟨gb352, 0, none⟩) (Kd.R_types y0_.out y1_.out (by decide)) (fun _ hk => hk.2) (.slice Ao151 t342.length co151)) (fun _ hk => hk.2) (.slice Ao153 t345.length co153)) (fun _ hk => hk.2) (.int .i64 t348)) (fun _ h_ => h_.1))) : P := h y0 y1
theorem qdk9_11 {P Q0 Q1 : Prop} (y0 : Q0) (y1 : Q1) (h : Q0 → Q1 → P := by intro y0_ y1_; (with_reducible repeat (first | apply Kd.R_alloc | apply Kd.R_drewN | apply Kd.R_drew)); exact (Kd.R_mono (Kd.R_far (p := ⟨gb361, 2, none⟩) (Kd.R_far (p := ⟨gb361, 1, none⟩) (Kd.R_far (p := ⟨gb361, 0, none⟩) (Kd.R_types y0_.out y1_.out (by decide)) (fun _ hk => hk.2) (.slice Ao156 t353.length co156)) (fun _ hk => hk.2) (.slice Ao159 t356.length co159)) (fun _ hk => hk.2) (.int .i64 t359)) (fun _ h_ => h_.1))) : P := h y0 y1
theorem qdk9_12 {P Q0 Q1 : Prop} (y0 : Q0) (y1 : Q1) (h : Q0 → Q1 → P := by intro y0_ y1_; (with_reducible repeat (first | apply Kd.R_alloc | apply Kd.R_drewN | apply Kd.R_drew)); exact (Kd.R_mono (Kd.R_far (p := ⟨gb352, 2, none⟩) (Kd.R_far (p := ⟨gb352, 1, none⟩) (Kd.R_far (p := ⟨gb352, 0, none⟩) (Kd.R_types y0_.out y1_.out (by decide)) (fun _ hk => hk.2) (.slice Ao11 t342.length co11)) (fun _ hk => hk.2) (.slice Ao13 t345.length co13)) (fun _ hk => hk.2) (.int .i64 t348)) (fun _ h_ => h_.1))) : P := h y0 y1
theorem qdk9_13 {P Q0 Q1 : Prop} (y0 : Q0) (y1 : Q1) (h : Q0 → Q1 → P := by intro y0_ y1_; (with_reducible repeat (first | apply Kd.R_alloc | apply Kd.R_drewN | apply Kd.R_drew)); exact (Kd.R_mono (Kd.R_far (p := ⟨gb361, 2, none⟩) (Kd.R_far (p := ⟨gb361, 1, none⟩) (Kd.R_far (p := ⟨gb361, 0, none⟩) (Kd.R_types y0_.out y1_.out (by decide)) (fun _ hk => hk.2) (.slice Ao16 t353.length co16)) (fun _ hk => hk.2) (.slice Ao19 t356.length co19)) (fun _ hk => hk.2) (.int .i64 t359)) (fun _ h_ => h_.1))) : P := h y0 y1
theorem qdk9_14 {P : Prop} (h : P := by (try simp only [List.map_toArray, List.map_cons, List.map_nil]); first | done | rfl | (simp only [List.length_drop, List.length_take]; rfl)) : P := h
theorem qdk9_15 {P Q0 Q1 : Prop} (y0 : Q0) (y1 : Q1) (h : Q0 → Q1 → P := by intro y0_ y1_; repeat (first | (with_reducible first | exact y0_.out | apply below_alloc | apply pw_below_drewN | apply below_drew1 | refine below_set ?_ y1_.out) | exact y0_.out)) : P := h y0 y1
theorem qdk9_16 {P Q0 Q1 : Prop} (y0 : Q0) (y1 : Q1) (h : Q0 → Q1 → P := by intro y0_ y1_; (with_reducible repeat (first | refine blk_drewN ?_ _ | refine blk_drew ?_ | refine blk_alloc ?_ _)); refine blk_far ?_ y0_.out _; (with_reducible repeat (first | refine blk_drewN ?_ _ | refine blk_drew ?_ | refine blk_alloc ?_ _)); refine blk_far ?_ y0_.out _; (with_reducible repeat (first | refine blk_drewN ?_ _ | refine blk_drew ?_ | refine blk_alloc ?_ _)); refine blk_far ?_ y0_.out _; (with_reducible repeat (first | refine blk_drewN ?_ _ | refine blk_drew ?_ | refine blk_alloc ?_ _)); exact y1_.out) : P := h y0 y1
theorem qdk9_17 {P Q0 Q1 Q2 Q3 Q4 : Prop} (y0 : Q0) (y1 : Q1) (y2 : Q2) (y3 : Q3) (y4 : Q4) (h : Q0 → Q1 → Q2 → Q3 → Q4 → P := by intro y0_ y1_ y2_ y3_ y4_; repeat (first | (with_reducible first | exact y0_.out | apply below_alloc | apply pw_below_drewN | apply below_drew1 | refine below_set ?_ y1_.out | refine below_set ?_ y2_.out | refine below_set ?_ y3_.out | refine below_set ?_ y4_.out) | exact y0_.out)) : P := h y0 y1 y2 y3 y4
theorem qdk9_18 {P Q0 : Prop} (y0 : Q0) (h : Q0 → P := by intro y0_; repeat (first | (with_reducible first | exact y0_.out | apply below_alloc | apply pw_below_drewN | apply below_drew1) | exact y0_.out)) : P := h y0
theorem qdk9_19 {P Q0 : Prop} (y0 : Q0) (h : Q0 → P := by intro y0_; (with_reducible repeat (first | refine blk_drewN ?_ _ | refine blk_drew ?_ | refine blk_alloc ?_ _)); refine blk_put (cs := #[.int .u64 ((rd_T62 t345 x16_4).f0), .int .i64 ((rd_T62 t345 x16_4).f1), .int .i64 ((rd_T62 t345 x16_4).f2), .bool false]) ?_ 3 _ rfl; (with_reducible repeat (first | refine blk_drewN ?_ _ | refine blk_drew ?_ | refine blk_alloc ?_ _)); refine blk_put (cs := #[.int .u64 ((rd_T62 t345 x16_4).f0), .int .i64 ((rd_T62 t345 x16_4).f1), .int .i64 0, .bool false]) ?_ 2 _ rfl; (with_reducible repeat (first | refine blk_drewN ?_ _ | refine blk_drew ?_ | refine blk_alloc ?_ _)); refine blk_put (cs := #[.int .u64 ((rd_T62 t345 x16_4).f0), .int .i64 0, .int .i64 0, .bool false]) ?_ 1 _ rfl; (with_reducible repeat (first | refine blk_drewN ?_ _ | refine blk_drew ?_ | refine blk_alloc ?_ _)); refine blk_put (cs := #[.int .u64 0, .int .i64 0, .int .i64 0, .bool false]) ?_ 0 _ rfl; (with_reducible repeat (first | refine blk_drewN ?_ _ | refine blk_drew ?_ | refine blk_alloc ?_ _)); exact y0_.out) : P := h y0
theorem qdk9_20 {P Q0 : Prop} (y0 : Q0) (h : Q0 → P := by intro y0_; (with_reducible repeat (first | apply Kd.R_alloc | apply Kd.R_drewN | apply Kd.R_drew)); exact Kd.R_mono y0_.out (fun _ hk => ⟨⟨hk.1.2.1, ⟨hk.1.2.2, hk.2⟩⟩, hk.1.1⟩)) : P := h y0
theorem qdk9_21 {P : Prop} (h : P := by first | (with_reducible assumption) | assumption) : P := h
theorem qdk9_22 {P : Prop} (h : P := by first | rfl | (simp; done) | (simp [*]; done)) : P := h
theorem qdk9_23 {P Q0 : Prop} (y0 : Q0) (h : Q0 → P := by intro y0_; repeat (first | exact y0_.out | (with_reducible refine Kd.C_alloc ?_ _) | (with_reducible refine Kd.C_drewN ?_ _) | (with_reducible refine Kd.C_drew ?_))) : P := h y0
theorem qdk9_24 {P : Prop} (h : P := by first | (go_simp; done) | (go_simp; rfl)) : P := h
theorem qdk9_25 {P Q0 : Prop} (y0 : Q0) (h : Q0 → P := by intro y0_; (with_reducible repeat (first | apply Kd.R_alloc | apply Kd.R_drewN | apply Kd.R_drew)); exact Kd.R_mono y0_.out (fun _ hk => ⟨⟨hk.1.1, ⟨hk.1.2.2.1, ⟨hk.1.2.2.2, hk.2⟩⟩⟩, hk.1.2.1⟩)) : P := h y0
theorem qdk9_26 {P : Prop} (h : P := by kernel_rfl) : P := h
/-! ### laws_FnDictKept: function 9 -/
mutual
def laws_FnDictKept.j0 : Nat → Int → Int → Int → Bool → List Int → List (S62) → Int → List Int → List (S62) → Int → Option (Bool)
 | 0, _, _, _, _, _, _, _, _, _, _ => none
 | k + 1, x4, x5, x6, x63, x353000, x353001, x353002, x362000, x362001, x362002 => if x63 = true then (none) else ((impl_DictFind.f x362000 x362001 x362002 x4 x5).bind fun bt373 => (if bt373.1 < 0 then (laws_FnDictKept.j1 k x4 x5 true x353000 x353001 x353002 x362000 x362001 x362002) else (if bt373.2 < 1 then (laws_FnDictKept.j1 k x4 x5 true x353000 x353001 x353002 x362000 x362001 x362002) else (if 0 ≤ bt373.1 then (if bt373.1 < (x362001.length : Int) then (laws_FnDictKept.j1 k x4 x5 (((rd_T62 x362001 bt373.1).f2) != x6) x353000 x353001 x353002 x362000 x362001 x362002) else (none)) else (none)))))
def laws_FnDictKept.j1 : Nat → Int → Int → Bool → List Int → List (S62) → Int → List Int → List (S62) → Int → Option (Bool)
 | 0, _, _, _, _, _, _, _, _, _ => none
 | k + 1, x4, x5, x86, x353000, x353001, x353002, x362000, x362001, x362002 => if x86 = true then (none) else ((impl_DictCut.f x362000 x362001 x362002 x4 x5).bind fun bt376 => ((impl_DictFind.f bt376.1 bt376.2.1 bt376.2.2.1 x4 x5).bind fun bt385 => (if bt376.2.2.2 = true then (if bt385.1 = (-1) then ((spec_DictOk.f k bt376.1 bt376.2.1 bt376.2.2.1).bind fun t387 => (laws_FnDictKept.j2 k x4 x5 (!t387) x353000 x353001 x353002 bt376.1 bt376.2.1 bt376.2.2.1)) else (laws_FnDictKept.j2 k x4 x5 true x353000 x353001 x353002 bt376.1 bt376.2.1 bt376.2.2.1)) else (laws_FnDictKept.j2 k x4 x5 true x353000 x353001 x353002 bt376.1 bt376.2.1 bt376.2.2.1))))
def laws_FnDictKept.j2 : Nat → Int → Int → Bool → List Int → List (S62) → Int → List Int → List (S62) → Int → Option (Bool)
 | 0, _, _, _, _, _, _, _, _, _ => none
 | k + 1, x4, x5, x111, x353000, x353001, x353002, x385000, x385001, x385002 => if x111 = true then (none) else (laws_FnDictKept.l0 k x4 x5 (([] : List Int)) 0 x353000 x353001 x353002 x385000 x385001 x385002)
def laws_FnDictKept.l0 : Nat → Int → Int → List Int → Int → List Int → List (S62) → Int → List Int → List (S62) → Int → Option (Bool)
 | 0, _, _, _, _, _, _, _, _, _, _ => none
 | k + 1, x4, x5, x15, x16, x353000, x353001, x353002, x385000, x385001, x385002 => if x16 < (x353001.length : Int) then (if 0 ≤ x16 then (if ((rd_T62 x353001 x16).f3 = true) then (laws_FnDictKept.l0 k x4 x5 x15 (wrap64 (x16 + 1)) x353000 x353001 x353002 x385000 x385001 x385002) else (if ((rd_T62 x353001 x16).f0) = x4 then (if (((rd_T62 x353001 x16).f1) = x5) then (laws_FnDictKept.l0 k x4 x5 x15 (wrap64 (x16 + 1)) x353000 x353001 x353002 x385000 x385001 x385002) else ((some (([(rd_T62 x353001 x16).f1, (rd_T62 x353001 x16).f2] : List Int) : List Int)).bind fun y393 => (if x15.length + y393.length < 17592186044416 then (laws_FnDictKept.l0 k x4 x5 (x15 ++ y393) (wrap64 (x16 + 1)) x353000 x353001 x353002 x385000 x385001 x385002) else (none)))) else ((some (([(rd_T62 x353001 x16).f1, (rd_T62 x353001 x16).f2] : List Int) : List Int)).bind fun y399 => (if x15.length + y399.length < 17592186044416 then (laws_FnDictKept.l0 k x4 x5 (x15 ++ y399) (wrap64 (x16 + 1)) x353000 x353001 x353002 x385000 x385001 x385002) else (none))))) else (none)) else (laws_FnDictKept.l1 k x15 (([] : List Int)) 0 x385000 x385001 x385002)
def laws_FnDictKept.l1 : Nat → List Int → List Int → Int → List Int → List (S62) → Int → Option (Bool)
 | 0, _, _, _, _, _, _ => none
 | k + 1, x15, x18, x19, x385000, x385001, x385002 => if x19 < (x385001.length : Int) then (if 0 ≤ x19 then (if ((rd_T62 x385001 x19).f3 = true) then (laws_FnDictKept.l1 k x15 x18 (wrap64 (x19 + 1)) x385000 x385001 x385002) else ((some (([(rd_T62 x385001 x19).f1, (rd_T62 x385001 x19).f2] : List Int) : List Int)).bind fun y411 => (if x18.length + y411.length < 17592186044416 then (laws_FnDictKept.l1 k x15 (x18 ++ y411) (wrap64 (x19 + 1)) x385000 x385001 x385002) else (none)))) else (none)) else ((laws_sameInts.f k x15 x18).bind fun t417 => (some t417))
end
def laws_FnDictKept.f (k : Nat) (l0 : List Int) : Option (Bool) := (laws_big.f l0).bind fun t341 => (if t341 = true then (some true) else ((spec_DrawDictPut.f k l0).bind fun bt342 => ((impl_DictPut.f bt342.1 bt342.2.1 bt342.2.2.1 bt342.2.2.2.1 bt342.2.2.2.2.1 bt342.2.2.2.2.2).bind fun bt353 => ((spec_DictOk.f k bt342.1 bt342.2.1 bt342.2.2.1).bind fun t362 => (if t362 = true then (if bt353.2.2.2 = true then ((spec_DictOk.f k bt353.1 bt353.2.1 bt353.2.2.1).bind fun t371 => (if t371 = true then ((impl_DictOk.f bt353.1 bt353.2.1 bt353.2.2.1).bind fun t372 => (laws_FnDictKept.j0 k bt342.2.2.2.1 bt342.2.2.2.2.1 bt342.2.2.2.2.2 (!t372) bt342.1 bt342.2.1 bt342.2.2.1 bt353.1 bt353.2.1 bt353.2.2.1)) else (laws_FnDictKept.j0 k bt342.2.2.2.1 bt342.2.2.2.2.1 bt342.2.2.2.2.2 true bt342.1 bt342.2.1 bt342.2.2.1 bt353.1 bt353.2.1 bt353.2.2.1))) else (laws_FnDictKept.j0 k bt342.2.2.2.1 bt342.2.2.2.2.1 bt342.2.2.2.2.2 true bt342.1 bt342.2.1 bt342.2.2.1 bt353.1 bt353.2.1 bt353.2.2.1)) else (if bt353.2.2.2 = true then (none) else (if (bt353.1.length : Int) = 0 then ((impl_NewDict.f k).bind fun bt363 => ((impl_DictOk.f bt363.1 bt363.2.1 bt363.2.2).bind fun t370 => (some t370))) else (none))))))))
def laws_FnDictKept.T28 : Bool × List (List Nat × List Nat) := (true, [([], []), ([], []), ([1], [1]), ([], []), ([2, 3], [2, 3]), ([4], [4]), ([5], [5]), ([], []), ([7], [7]), ([], []), ([8, 9], [8, 9]), ([10], [10]), ([11], [11]), ([6, 12], [6, 12]), ([0, 13], [0, 13]), ([14, 14, 0, 1, 2, 3, 4, 5, 6, 7, 8, 9, 10, 11, 12, 13, 14], [0, 14])])
def laws_FnDictKept.B28 : List Nat := [0, 0, 2, 0, 14, 30, 62, 0, 128, 0, 896, 1920, 3968, 8190, 16383, 32767]
theorem laws_FnDictKept.tab28 : rtab .any (opsOf Try.f9 28) = laws_FnDictKept.T28 := by kernel_rfl
theorem laws_FnDictKept.bits28 : waitsOk laws_FnDictKept.T28.2 laws_FnDictKept.B28 = true := by kernel_rfl
set_option maxHeartbeats 8000000 in
set_option maxRecDepth 100000 in
theorem laws_FnDictKept.calls (k : Nat) (A0 : Option Addr) (c0 : Nat) (l0 : List Int) (r : Bool) (w : World) (hr0 : Kd.C (Kd.int .u8) w A0 l0.length l0) (hc0 : l0.length ≤ c0) (h : laws_FnDictKept.f k l0 = some r) :
  Calls Try.prog 9 #[.slice A0 l0.length c0] w fun e w' => e = .returned (.bool r) ∧ Below w.heap.size w w' := by
 have hu25 := Try.underlying25
 have hu62 := Try.underlying62
 have HR0 := Aside0.mk hr0
 have HC0 := Aside0.mk hc0
 clear hr0 hc0
 have HB := Aside0.mk (Below.refl w.heap.size w)
 have H : ((laws_big.f l0).bind fun t341 => (if t341 = true then (some true) else ((spec_DrawDictPut.f k l0).bind fun bt342 => ((impl_DictPut.f bt342.1 bt342.2.1 bt342.2.2.1 bt342.2.2.2.1 bt342.2.2.2.2.1 bt342.2.2.2.2.2).bind fun bt353 => ((spec_DictOk.f k bt342.1 bt342.2.1 bt342.2.2.1).bind fun t362 => (if t362 = true then (if bt353.2.2.2 = true then ((spec_DictOk.f k bt353.1 bt353.2.1 bt353.2.2.1).bind fun t371 => (if t371 = true then ((impl_DictOk.f bt353.1 bt353.2.1 bt353.2.2.1).bind fun t372 => (laws_FnDictKept.j0 k bt342.2.2.2.1 bt342.2.2.2.2.1 bt342.2.2.2.2.2 (!t372) bt342.1 bt342.2.1 bt342.2.2.1 bt353.1 bt353.2.1 bt353.2.2.1)) else (laws_FnDictKept.j0 k bt342.2.2.2.1 bt342.2.2.2.2.1 bt342.2.2.2.2.2 true bt342.1 bt342.2.1 bt342.2.2.1 bt353.1 bt353.2.1 bt353.2.2.1))) else (laws_FnDictKept.j0 k bt342.2.2.2.1 bt342.2.2.2.2.1 bt342.2.2.2.2.2 true bt342.1 bt342.2.1 bt342.2.2.1 bt353.1 bt353.2.1 bt353.2.2.1)) else (if bt353.2.2.2 = true then (none) else (if (bt353.1.length : Int) = 0 then ((impl_NewDict.f k).bind fun bt363 => ((impl_DictOk.f bt363.1 bt363.2.1 bt363.2.2).bind fun t370 => (some t370))) else (none))))))))) = some r := h
 clear h
 replace H := Option.bind_eq_some_iff.mp H
 obtain ⟨t341, A20, H⟩ := H
 replace H : (if t341 = true then (some true) else ((spec_DrawDictPut.f k l0).bind fun bt342 => ((impl_DictPut.f bt342.1 bt342.2.1 bt342.2.2.1 bt342.2.2.2.1 bt342.2.2.2.2.1 bt342.2.2.2.2.2).bind fun bt353 => ((spec_DictOk.f k bt342.1 bt342.2.1 bt342.2.2.1).bind fun t362 => (if t362 = true then (if bt353.2.2.2 = true then ((spec_DictOk.f k bt353.1 bt353.2.1 bt353.2.2.1).bind fun t371 => (if t371 = true then ((impl_DictOk.f bt353.1 bt353.2.1 bt353.2.2.1).bind fun t372 => (laws_FnDictKept.j0 k bt342.2.2.2.1 bt342.2.2.2.2.1 bt342.2.2.2.2.2 (!t372) bt342.1 bt342.2.1 bt342.2.2.1 bt353.1 bt353.2.1 bt353.2.2.1)) else (laws_FnDictKept.j0 k bt342.2.2.2.1 bt342.2.2.2.2.1 bt342.2.2.2.2.2 true bt342.1 bt342.2.1 bt342.2.2.1 bt353.1 bt353.2.1 bt353.2.2.1))) else (laws_FnDictKept.j0 k bt342.2.2.2.1 bt342.2.2.2.2.1 bt342.2.2.2.2.2 true bt342.1 bt342.2.1 bt342.2.2.1 bt353.1 bt353.2.1 bt353.2.2.1)) else (if bt353.2.2.2 = true then (none) else (if (bt353.1.length : Int) = 0 then ((impl_NewDict.f k).bind fun bt363 => ((impl_DictOk.f bt363.1 bt363.2.1 bt363.2.2).bind fun t370 => (some t370))) else (none)))))))) = some r := H
 have A2 := Aside0.mk A20
 clear A20
 by_cases c3 : t341 = true
 ·subst c3
  have H1 : (some true) = some r := by rw [if_pos rfl] at H; exact H
  clear H
  have H := H1
  clear H1
  obtain rfl := Option.some.inj H
  go_enter Try.func9, Try.ntmps9
  go_wp2_with (first | ((with_reducible refine gate_callee (f := 16) rfl ?_); refine goesL_ (some 21) rfl rfl Try.func16 qdk9_26 rfl #[.slice A0 l0.length c0] rfl qdk9_14 ?_; (with_reducible refine (laws_big.calls _ _ l0 true _ ?side1 ?side2 A2.out).mono ?_); (case side1 => exact (qdk9_23 HR0)); (case side2 => exact HC0.out); rintro e w' ⟨rfl, ⟨nd, rfl⟩⟩; refine ⟨_, rfl, ?_⟩))
  go_ret
  exact ⟨(by first | rfl | (simp [errW_none, errW_some] <;> rfl) | (simp [*, errW_none, errW_some] <;> rfl)), (by repeat (first | (with_reducible first | exact HB.out | apply below_alloc | apply pw_below_drewN | apply below_drew1) | exact HB.out))⟩
 replace c3 := Bool.eq_false_iff.mpr c3
 subst c3
 have H1 : ((spec_DrawDictPut.f k l0).bind fun bt342 => ((impl_DictPut.f bt342.1 bt342.2.1 bt342.2.2.1 bt342.2.2.2.1 bt342.2.2.2.2.1 bt342.2.2.2.2.2).bind fun bt353 => ((spec_DictOk.f k bt342.1 bt342.2.1 bt342.2.2.1).bind fun t362 => (if t362 = true then (if bt353.2.2.2 = true then ((spec_DictOk.f k bt353.1 bt353.2.1 bt353.2.2.1).bind fun t371 => (if t371 = true then ((impl_DictOk.f bt353.1 bt353.2.1 bt353.2.2.1).bind fun t372 => (laws_FnDictKept.j0 k bt342.2.2.2.1 bt342.2.2.2.2.1 bt342.2.2.2.2.2 (!t372) bt342.1 bt342.2.1 bt342.2.2.1 bt353.1 bt353.2.1 bt353.2.2.1)) else (laws_FnDictKept.j0 k bt342.2.2.2.1 bt342.2.2.2.2.1 bt342.2.2.2.2.2 true bt342.1 bt342.2.1 bt342.2.2.1 bt353.1 bt353.2.1 bt353.2.2.1))) else (laws_FnDictKept.j0 k bt342.2.2.2.1 bt342.2.2.2.2.1 bt342.2.2.2.2.2 true bt342.1 bt342.2.1 bt342.2.2.1 bt353.1 bt353.2.1 bt353.2.2.1)) else (if bt353.2.2.2 = true then (none) else (if (bt353.1.length : Int) = 0 then ((impl_NewDict.f k).bind fun bt363 => ((impl_DictOk.f bt363.1 bt363.2.1 bt363.2.2).bind fun t370 => (some t370))) else (none))))))) = some r := by rw [if_neg (show ¬ (false = true) by decide)] at H; exact H
 clear H
 have H := H1
 clear H1
 replace H := Option.bind_eq_some_iff.mp H
 obtain ⟨⟨t342, t345, t348, t349, t350, t351⟩, A40, H⟩ := H
 replace H : ((impl_DictPut.f t342 t345 t348 t349 t350 t351).bind fun bt353 => ((spec_DictOk.f k t342 t345 t348).bind fun t362 => (if t362 = true then (if bt353.2.2.2 = true then ((spec_DictOk.f k bt353.1 bt353.2.1 bt353.2.2.1).bind fun t371 => (if t371 = true then ((impl_DictOk.f bt353.1 bt353.2.1 bt353.2.2.1).bind fun t372 => (laws_FnDictKept.j0 k t349 t350 t351 (!t372) t342 t345 t348 bt353.1 bt353.2.1 bt353.2.2.1)) else (laws_FnDictKept.j0 k t349 t350 t351 true t342 t345 t348 bt353.1 bt353.2.1 bt353.2.2.1))) else (laws_FnDictKept.j0 k t349 t350 t351 true t342 t345 t348 bt353.1 bt353.2.1 bt353.2.2.1)) else (if bt353.2.2.2 = true then (none) else (if (bt353.1.length : Int) = 0 then ((impl_NewDict.f k).bind fun bt363 => ((impl_DictOk.f bt363.1 bt363.2.1 bt363.2.2).bind fun t370 => (some t370))) else (none)))))) = some r := H
 have A4 := Aside0.mk A40
 clear A40
 replace H := Option.bind_eq_some_iff.mp H
 obtain ⟨⟨t353, t356, t359, t360⟩, A50, H⟩ := H
 replace H : ((spec_DictOk.f k t342 t345 t348).bind fun t362 => (if t362 = true then (if t360 = true then ((spec_DictOk.f k t353 t356 t359).bind fun t371 => (if t371 = true then ((impl_DictOk.f t353 t356 t359).bind fun t372 => (laws_FnDictKept.j0 k t349 t350 t351 (!t372) t342 t345 t348 t353 t356 t359)) else (laws_FnDictKept.j0 k t349 t350 t351 true t342 t345 t348 t353 t356 t359))) else (laws_FnDictKept.j0 k t349 t350 t351 true t342 t345 t348 t353 t356 t359)) else (if t360 = true then (none) else (if (t353.length : Int) = 0 then ((impl_NewDict.f k).bind fun bt363 => ((impl_DictOk.f bt363.1 bt363.2.1 bt363.2.2).bind fun t370 => (some t370))) else (none))))) = some r := H
 have A5 := Aside0.mk A50
 clear A50
 replace H := Option.bind_eq_some_iff.mp H
 obtain ⟨t362, A60, H⟩ := H
 replace H : (if t362 = true then (if t360 = true then ((spec_DictOk.f k t353 t356 t359).bind fun t371 => (if t371 = true then ((impl_DictOk.f t353 t356 t359).bind fun t372 => (laws_FnDictKept.j0 k t349 t350 t351 (!t372) t342 t345 t348 t353 t356 t359)) else (laws_FnDictKept.j0 k t349 t350 t351 true t342 t345 t348 t353 t356 t359))) else (laws_FnDictKept.j0 k t349 t350 t351 true t342 t345 t348 t353 t356 t359)) else (if t360 = true then (none) else (if (t353.length : Int) = 0 then ((impl_NewDict.f k).bind fun bt363 => ((impl_DictOk.f bt363.1 bt363.2.1 bt363.2.2).bind fun t370 => (some t370))) else (none)))) = some r := H
 have A6 := Aside0.mk A60
 clear A60
 by_cases c7 : t362 = true
 ·subst c7
  have H1 : (if t360 = true then ((spec_DictOk.f k t353 t356 t359).bind fun t371 => (if t371 = true then ((impl_DictOk.f t353 t356 t359).bind fun t372 => (laws_FnDictKept.j0 k t349 t350 t351 (!t372) t342 t345 t348 t353 t356 t359)) else (laws_FnDictKept.j0 k t349 t350 t351 true t342 t345 t348 t353 t356 t359))) else (laws_FnDictKept.j0 k t349 t350 t351 true t342 t345 t348 t353 t356 t359)) = some r := by rw [if_pos rfl] at H; exact H
  clear H
  have H := H1
  clear H1
  have HC8 := Aside0.mk H
  clear H
  go_enter Try.func9, Try.ntmps9
  go_upto_region 7 with (first | ((with_reducible refine gate_callee (f := 16) rfl ?_); refine goesL_ (some 21) rfl rfl Try.func16 qdk9_26 rfl #[.slice A0 l0.length c0] rfl qdk9_14 ?_; (with_reducible refine (laws_big.calls _ _ l0 false _ ?side1 ?side2 A2.out).mono ?_); (case side1 => exact (qdk9_23 HR0)); (case side2 => exact HC0.out); rintro e w' ⟨rfl, ⟨nd, rfl⟩⟩; refine ⟨_, rfl, ?_⟩) | ((with_reducible refine gate_callee (f := 35) rfl ?_); refine goesL_ (some 24) rfl rfl Try.func35 qdk9_26 rfl #[.slice A0 l0.length c0] rfl qdk9_14 ?_; (with_reducible refine (spec_DrawDictPut.calls k _ _ l0 t342 t345 t348 t349 t350 t351 _ ?side1 ?side2 A4.out).mono ?_); (case side1 => exact (qdk9_23 HR0)); (case side2 => exact HC0.out); rintro e w9 ⟨v343, v346, rfl, ho0, ho1, hb⟩; refine ⟨_, rfl, ?_⟩; have n0_ := Aside0.mk (Kd.R_lower ho0 (below_size (qdk9_18 HB))); have n1_ := Aside0.mk (Kd.R_lower ho1 (below_size (qdk9_18 HB))); have n2_ := Aside0.mk (below_step (qdk9_18 HB) hb); clear HB; have HO344 := n0_; have HO347 := n1_; have HB := n2_; clear n0_ n1_ n2_; (try clear hb); (try clear hb2); (try clear hk); (try clear hi); (try clear ho0); (try clear ho1)) | ((with_reducible refine gate_dst (N := 3) rfl ?_); (try (refine gate_guard (by rfl) ?_; dsimp only)); refine box_event ?hg (N := 3) ?hd (cs := #[.slice none 0 0, .slice none 0 0, .int .i64 0]) (t := 25) ?hr ?_; (case hd => rfl); (case hg => rfl); (case hr => exact qdk9_24); intro gb352 hg w10 hbox hb; have n0_ := Aside0.mk (Kd.R_below (qdk9_1 HO344) hb); have n1_ := Aside0.mk (Kd.R_below (qdk9_1 HO347) hb); have n2_ := Aside0.mk (below_step (qdk9_18 HB) hb); have n3_ := Aside0.mk (hbox); have n4_ := Aside0.mk ((by rw [hg]; exact (below_size (qdk9_18 HB)) : w.heap.size ≤ gb352)); have n5_ := Aside0.mk ((by rw [hg]; exact (below_size (qdk9_18 HB)) : w.heap.size ≤ gb352)); clear HO344 HO347 HB; have HO344 := n0_; have HO347 := n1_; have HB := n2_; have BK352 := n3_; have GW352 := n4_; have GE352 := n5_; clear n0_ n1_ n2_ n3_ n4_ n5_; clear hb hbox hg; obtain ⟨Ao11, co11, eo11⟩ := Kd.R_slice HO344.out; subst eo11; have hcz12_0 : w10.cell? ⟨gb352, 0, none⟩ = some (.slice none 0 0) := (blk_cell BK352.out 0).trans rfl; have hcz12_1 : w10.cell? ⟨gb352, 1, none⟩ = some (.slice none 0 0) := (blk_cell BK352.out 1).trans rfl; have hcz12_2 : w10.cell? ⟨gb352, 2, none⟩ = some (.int .i64 0) := (blk_cell BK352.out 2).trans rfl; have hfz12_0 := blk_frozen BK352.out 0; have hfz12_1 := blk_frozen BK352.out 1; have hfz12_2 := blk_frozen BK352.out 2; obtain ⟨Ao13, co13, eo13⟩ := Kd.R_slice HO347.out; subst eo13) | ((with_reducible refine gate_callee (f := 36) rfl ?_); refine goesL_ (some 34) rfl rfl Try.func36 qdk9_26 rfl #[.agg #[.slice Ao11 t342.length co11, .slice Ao13 t345.length co13, .int .i64 t348], .int .u64 t349, .int .i64 t350, .int .i64 t351] rfl qdk9_14 ?_; (with_reducible refine (impl_DictPut.calls _ _ t342 _ _ t345 t348 t349 t350 t351 t353 t356 t359 t360 _ ?side1 ?side2 ?side3 ?side4 A5.out).mono ?_); (case side1 => exact (by refine (Kd.R_reads' (e := 2) (base := w.heap.size) (ok := fun k_ => True) (n := t342.length) (c := co11) ?_).2.2; exact (qdk9_12 HO344 BK352))); (case side2 => exact (Kd.R_reads' HO344.out).2.1); (case side3 => exact (by refine (Kd.R_reads' (e := 62) (base := w.heap.size) (ok := fun k_ => True) (n := t345.length) (c := co13) ?_).2.2; exact (qdk9_12 HO347 BK352))); (case side4 => exact (Kd.R_reads' HO347.out).2.1); rintro e w14 ⟨v354, v357, rfl, ho0, ho1, hb⟩; refine ⟨_, rfl, ?_⟩; have n0_ := Aside0.mk (Kd.R_elder' (qdk9_12 HO344 BK352) (Kd.R_base ho0) hb); have n1_ := Aside0.mk (Kd.R_elder' (qdk9_12 HO347 BK352) (Kd.R_base ho1) hb); have n2_ := Aside0.mk (Kd.R_lower (Kd.R_new' ho0 (Kd.R_lt (qdk9_12 HO344 BK352))) (below_size (qdk9_15 HB GE352))); have n3_ := Aside0.mk (Kd.R_lower (Kd.R_new' ho1 (Kd.R_lt (qdk9_12 HO347 BK352))) (below_size (qdk9_15 HB GE352))); have n4_ := Aside0.mk (blk_below (g := gb352) (o := .cells #[.slice Ao11 t342.length co11, .slice Ao13 t345.length co13, .int .i64 t348] 25 (0, 0)) (by (with_reducible repeat (first | refine blk_drewN ?_ _ | refine blk_drew ?_ | refine blk_alloc ?_ _)); refine blk_put (cs := #[.slice Ao11 t342.length co11, .slice Ao13 t345.length co13, .int .i64 0]) ?_ 2 _ rfl; (with_reducible repeat (first | refine blk_drewN ?_ _ | refine blk_drew ?_ | refine blk_alloc ?_ _)); refine blk_put (cs := #[.slice Ao11 t342.length co11, .slice none 0 0, .int .i64 0]) ?_ 1 _ rfl; (with_reducible repeat (first | refine blk_drewN ?_ _ | refine blk_drew ?_ | refine blk_alloc ?_ _)); refine blk_put (cs := #[.slice none 0 0, .slice none 0 0, .int .i64 0]) ?_ 0 _ rfl; (with_reducible repeat (first | refine blk_drewN ?_ _ | refine blk_drew ?_ | refine blk_alloc ?_ _)); exact BK352.out) hb); have n5_ := Aside0.mk (below_step (qdk9_15 HB GE352) hb); clear HO344 HO347 BK352 HB; have HO344 := n0_; have HO347 := n1_; have HO355 := n2_; have HO358 := n3_; have BK352 := n4_; have HB := n5_; clear n0_ n1_ n2_ n3_ n4_ n5_; (try clear hb); (try clear hb2); (try clear hk); (try clear hi); (try clear ho0); (try clear ho1)) | ((with_reducible refine gate_dst (N := 7) rfl ?_); (try (refine gate_guard (by rfl) ?_; dsimp only)); refine box_event ?hg (N := 7) ?hd (cs := #[.slice none 0 0, .slice none 0 0, .int .i64 0]) (t := 25) ?hr ?_; (case hd => rfl); (case hg => rfl); (case hr => exact qdk9_24); intro gb361 hg w15 hbox hb; have n0_ := Aside0.mk (Kd.R_below (qdk9_1 HO344) hb); have n1_ := Aside0.mk (Kd.R_below (qdk9_1 HO347) hb); have n2_ := Aside0.mk (Kd.R_below (qdk9_1 HO355) hb); have n3_ := Aside0.mk (Kd.R_below (qdk9_1 HO358) hb); have n4_ := Aside0.mk (blk_below (g := gb352) (o := .cells #[.slice Ao11 t342.length co11, .slice Ao13 t345.length co13, .int .i64 t348] 25 (0, 0)) (qdk9_2 BK352) hb); have n5_ := Aside0.mk (below_step (qdk9_15 HB GE352) hb); have n6_ := Aside0.mk (hbox); have n7_ := Aside0.mk ((by rw [hg]; exact (below_size (qdk9_15 HB GE352)) : w.heap.size ≤ gb361)); have n8_ := Aside0.mk ((by rw [hg]; exact (below_size (qdk9_15 HB GE352)) : w.heap.size ≤ gb361)); have n9_ := Aside0.mk ((qnl_pdkx9 BK352 hg : gb352 ≠ gb361)); have n10_ := Aside0.mk ((qng_pdkx9 BK352 hg : gb361 ≠ gb352)); clear HO344 HO347 HO355 HO358 BK352 HB; have HO344 := n0_; have HO347 := n1_; have HO355 := n2_; have HO358 := n3_; have BK352 := n4_; have HB := n5_; have BK361 := n6_; have GW361 := n7_; have GE361 := n8_; have NB352_361 := n9_; have NB361_352 := n10_; clear n0_ n1_ n2_ n3_ n4_ n5_ n6_ n7_ n8_ n9_ n10_; clear hb hbox hg; obtain ⟨Ao16, co16, eo16⟩ := Kd.R_slice HO355.out; subst eo16; have hnb17 := NB361_352.out; have hnc17 := NB352_361.out; have hcz18_0 : w15.cell? ⟨gb361, 0, none⟩ = some (.slice none 0 0) := (blk_cell BK361.out 0).trans rfl; have hcz18_1 : w15.cell? ⟨gb361, 1, none⟩ = some (.slice none 0 0) := (blk_cell BK361.out 1).trans rfl; have hcz18_2 : w15.cell? ⟨gb361, 2, none⟩ = some (.int .i64 0) := (blk_cell BK361.out 2).trans rfl; have hfz18_0 := blk_frozen BK361.out 0; have hfz18_1 := blk_frozen BK361.out 1; have hfz18_2 := blk_frozen BK361.out 2; obtain ⟨Ao19, co19, eo19⟩ := Kd.R_slice HO358.out; subst eo19; have hcz20_0 : w15.cell? ⟨gb352, 0, none⟩ = some (.slice Ao11 t342.length co11) := (blk_cell BK352.out 0).trans rfl; have hcz20_1 : w15.cell? ⟨gb352, 1, none⟩ = some (.slice Ao13 t345.length co13) := (blk_cell BK352.out 1).trans rfl; have hcz20_2 : w15.cell? ⟨gb352, 2, none⟩ = some (.int .i64 t348) := (blk_cell BK352.out 2).trans rfl; have hfz20_0 := blk_frozen BK352.out 0; have hfz20_1 := blk_frozen BK352.out 1; have hfz20_2 := blk_frozen BK352.out 2) | ((with_reducible refine gate_callee (f := 20) rfl ?_); refine goesL_ (some 38) rfl rfl Try.func20 qdk9_26 rfl #[.agg #[.slice Ao11 t342.length co11, .slice Ao13 t345.length co13, .int .i64 t348]] rfl qdk9_14 ?_; (with_reducible refine (spec_DictOk.calls k _ _ t342 _ _ t345 t348 true _ ?side1 ?side2 ?side3 ?side4 A6.out).mono ?_); (case side1 => exact (by refine (Kd.R_reads' (e := 2) (base := w.heap.size) (ok := fun k_ => (True ∧ some k_ ≠ (.slice Ao16 t353.length co16 : Value).ownBlock)) (n := t342.length) (c := co11) ?_).2.2; exact (qdk9_13 HO344 BK361))); (case side2 => exact (Kd.R_reads' HO344.out).2.1); (case side3 => exact (by refine (Kd.R_reads' (e := 62) (base := w.heap.size) (ok := fun k_ => (True ∧ some k_ ≠ (.slice Ao19 t356.length co19 : Value).ownBlock)) (n := t345.length) (c := co13) ?_).2.2; exact (qdk9_13 HO347 BK361))); (case side4 => exact (Kd.R_reads' HO347.out).2.1); rintro e w21 ⟨rfl, hb⟩; refine ⟨_, rfl, ?_⟩; have n0_ := Aside0.mk (Kd.R_below (qdk9_13 HO344 BK361) hb); have n1_ := Aside0.mk (Kd.R_below (qdk9_13 HO347 BK361) hb); have n2_ := Aside0.mk (Kd.R_below (qdk9_13 HO355 BK361) hb); have n3_ := Aside0.mk (Kd.R_below (qdk9_13 HO358 BK361) hb); have n4_ := Aside0.mk (blk_below (g := gb352) (o := .cells #[.slice Ao11 t342.length co11, .slice Ao13 t345.length co13, .int .i64 t348] 25 (0, 0)) (qdk9_16 NB352_361 BK352) hb); have n5_ := Aside0.mk (blk_below (g := gb361) (o := .cells #[.slice Ao16 t353.length co16, .slice Ao19 t356.length co19, .int .i64 t359] 25 (0, 0)) (by (with_reducible repeat (first | refine blk_drewN ?_ _ | refine blk_drew ?_ | refine blk_alloc ?_ _)); refine blk_put (cs := #[.slice Ao16 t353.length co16, .slice Ao19 t356.length co19, .int .i64 0]) ?_ 2 _ rfl; (with_reducible repeat (first | refine blk_drewN ?_ _ | refine blk_drew ?_ | refine blk_alloc ?_ _)); refine blk_put (cs := #[.slice Ao16 t353.length co16, .slice none 0 0, .int .i64 0]) ?_ 1 _ rfl; (with_reducible repeat (first | refine blk_drewN ?_ _ | refine blk_drew ?_ | refine blk_alloc ?_ _)); refine blk_put (cs := #[.slice none 0 0, .slice none 0 0, .int .i64 0]) ?_ 0 _ rfl; (with_reducible repeat (first | refine blk_drewN ?_ _ | refine blk_drew ?_ | refine blk_alloc ?_ _)); exact BK361.out) hb); have n6_ := Aside0.mk (below_step (qdk9_8 HB GE352 GE361) hb); clear HO344 HO347 HO355 HO358 BK352 BK361 HB; have HO344 := n0_; have HO347 := n1_; have HO355 := n2_; have HO358 := n3_; have BK352 := n4_; have BK361 := n5_; have HB := n6_; clear n0_ n1_ n2_ n3_ n4_ n5_ n6_; (try clear hb); (try clear hb2); (try clear hk); (try clear hi)))
  (try simp only [Act.put, List.setIfInBounds_toArray, List.set_cons_zero, List.set_cons_succ])
  go_cut [63] (fun v63 wc => ∃ (kq : Nat) (x63_7 : Bool), v63 = .bool x63_7 ∧ Aside0 (laws_FnDictKept.j0 kq t349 t350 t351 x63_7 t342 t345 t348 t353 t356 t359 = some r) ∧ Aside0 (kq ≤ k) ∧ Aside0 (Kd.R (Kd.int .i64) 2 wc w.heap.size (fun k_ => some k_ ≠ ((.slice Ao16 t353.length co16) : Value).ownBlock) (.slice Ao11 t342.length co11) t342) ∧ Aside0 (Kd.R k62 62 wc w.heap.size (fun k_ => some k_ ≠ ((.slice Ao19 t356.length co19) : Value).ownBlock) (.slice Ao13 t345.length co13) t345) ∧ Aside0 (Kd.R (Kd.int .i64) 2 wc w.heap.size (fun k_ => some k_ ≠ ((.slice Ao11 t342.length co11) : Value).ownBlock) (.slice Ao16 t353.length co16) t353) ∧ Aside0 (Kd.R k62 62 wc w.heap.size (fun k_ => some k_ ≠ ((.slice Ao13 t345.length co13) : Value).ownBlock) (.slice Ao19 t356.length co19) t356) ∧ Aside0 (wc.heap[gb352]? = some (.cells #[(.slice Ao11 t342.length co11), (.slice Ao13 t345.length co13), .int .i64 t348] 25 (0, 0))) ∧ Aside0 (wc.heap[gb361]? = some (.cells #[(.slice Ao16 t353.length co16), (.slice Ao19 t356.length co19), .int .i64 t359] 25 (0, 0))) ∧ Aside0 (Below w.heap.size w wc))
  case first =>
   have H := HC8.out
   clear HC8
   by_cases c22 : t360 = true
   ·subst c22
    have H1 : ((spec_DictOk.f k t353 t356 t359).bind fun t371 => (if t371 = true then ((impl_DictOk.f t353 t356 t359).bind fun t372 => (laws_FnDictKept.j0 k t349 t350 t351 (!t372) t342 t345 t348 t353 t356 t359)) else (laws_FnDictKept.j0 k t349 t350 t351 true t342 t345 t348 t353 t356 t359))) = some r := by rw [if_pos rfl] at H; exact H
    clear H
    have H := H1
    clear H1
    replace H := Option.bind_eq_some_iff.mp H
    obtain ⟨t371, A230, H⟩ := H
    replace H : (if t371 = true then ((impl_DictOk.f t353 t356 t359).bind fun t372 => (laws_FnDictKept.j0 k t349 t350 t351 (!t372) t342 t345 t348 t353 t356 t359)) else (laws_FnDictKept.j0 k t349 t350 t351 true t342 t345 t348 t353 t356 t359)) = some r := H
    have A23 := Aside0.mk A230
    clear A230
    by_cases c24 : t371 = true
    ·subst c24
     have H1 : ((impl_DictOk.f t353 t356 t359).bind fun t372 => (laws_FnDictKept.j0 k t349 t350 t351 (!t372) t342 t345 t348 t353 t356 t359)) = some r := by rw [if_pos rfl] at H; exact H
     clear H
     have H := H1
     clear H1
     replace H := Option.bind_eq_some_iff.mp H
     obtain ⟨t372, A250, H⟩ := H
     replace H : (laws_FnDictKept.j0 k t349 t350 t351 (!t372) t342 t345 t348 t353 t356 t359) = some r := H
     have A25 := Aside0.mk A250
     clear A250
     have H' := Aside0.mk H
     clear H
     have hnb26 := NB361_352.out
     have hnc26 := NB352_361.out
     have hcz27_0 : w21.cell? ⟨gb361, 0, none⟩ = some (.slice Ao16 t353.length co16) := (blk_cell BK361.out 0).trans rfl
     have hcz27_1 : w21.cell? ⟨gb361, 1, none⟩ = some (.slice Ao19 t356.length co19) := (blk_cell BK361.out 1).trans rfl
     have hcz27_2 : w21.cell? ⟨gb361, 2, none⟩ = some (.int .i64 t359) := (blk_cell BK361.out 2).trans rfl
     have hfz27_0 := blk_frozen BK361.out 0
     have hfz27_1 := blk_frozen BK361.out 1
     have hfz27_2 := blk_frozen BK361.out 2
     go_wp2_with (first | (go_at_call 20; (with_reducible refine (spec_DictOk.calls k _ _ t353 _ _ t356 t359 true _ ?side1 ?side2 ?side3 ?side4 A23.out).mono ?_); (case side1 => exact (qdk9_9 HO355)); (case side2 => exact (Kd.R_reads' HO355.out).2.1); (case side3 => exact (qdk9_9 HO358)); (case side4 => exact (Kd.R_reads' HO358.out).2.1); rintro e w28 ⟨rfl, hb⟩; have n0_ := Aside0.mk (Kd.R_below (qdk9_1 HO344) hb); have n1_ := Aside0.mk (Kd.R_below (qdk9_1 HO347) hb); have n2_ := Aside0.mk (Kd.R_below (qdk9_1 HO355) hb); have n3_ := Aside0.mk (Kd.R_below (qdk9_1 HO358) hb); have n4_ := Aside0.mk (blk_below (g := gb352) (o := .cells #[.slice Ao11 t342.length co11, .slice Ao13 t345.length co13, .int .i64 t348] 25 (0, 0)) (qdk9_2 BK352) hb); have n5_ := Aside0.mk (blk_below (g := gb361) (o := .cells #[.slice Ao16 t353.length co16, .slice Ao19 t356.length co19, .int .i64 t359] 25 (0, 0)) (qdk9_2 BK361) hb); have n6_ := Aside0.mk (below_step (qdk9_8 HB GE352 GE361) hb); clear HO344 HO347 HO355 HO358 BK352 BK361 HB; have HO344 := n0_; have HO347 := n1_; have HO355 := n2_; have HO358 := n3_; have BK352 := n4_; have BK361 := n5_; have HB := n6_; clear n0_ n1_ n2_ n3_ n4_ n5_ n6_; (try clear hb); (try clear hb2); (try clear hk); (try clear hi); have hcz29_0 : w28.cell? ⟨gb361, 0, none⟩ = some (.slice Ao16 t353.length co16) := (blk_cell BK361.out 0).trans rfl; have hcz29_1 : w28.cell? ⟨gb361, 1, none⟩ = some (.slice Ao19 t356.length co19) := (blk_cell BK361.out 1).trans rfl; have hcz29_2 : w28.cell? ⟨gb361, 2, none⟩ = some (.int .i64 t359) := (blk_cell BK361.out 2).trans rfl; have hfz29_0 := blk_frozen BK361.out 0; have hfz29_1 := blk_frozen BK361.out 1; have hfz29_2 := blk_frozen BK361.out 2) | (go_at_call 22; (with_reducible refine (impl_DictOk.calls _ _ t353 _ _ t356 t359 t372 _ ?side1 ?side2 ?side3 ?side4 A25.out).mono ?_); (case side1 => exact (qdk9_9 HO355)); (case side2 => exact (Kd.R_reads' HO355.out).2.1); (case side3 => exact (qdk9_9 HO358)); (case side4 => exact (Kd.R_reads' HO358.out).2.1); rintro e w30 ⟨rfl, hb⟩; have n0_ := Aside0.mk (Kd.R_below (qdk9_1 HO344) hb); have n1_ := Aside0.mk (Kd.R_below (qdk9_1 HO347) hb); have n2_ := Aside0.mk (Kd.R_below (qdk9_1 HO355) hb); have n3_ := Aside0.mk (Kd.R_below (qdk9_1 HO358) hb); have n4_ := Aside0.mk (blk_below (g := gb352) (o := .cells #[.slice Ao11 t342.length co11, .slice Ao13 t345.length co13, .int .i64 t348] 25 (0, 0)) (qdk9_2 BK352) hb); have n5_ := Aside0.mk (blk_below (g := gb361) (o := .cells #[.slice Ao16 t353.length co16, .slice Ao19 t356.length co19, .int .i64 t359] 25 (0, 0)) (qdk9_2 BK361) hb); have n6_ := Aside0.mk (below_step (qdk9_8 HB GE352 GE361) hb); clear HO344 HO347 HO355 HO358 BK352 BK361 HB; have HO344 := n0_; have HO347 := n1_; have HO355 := n2_; have HO358 := n3_; have BK352 := n4_; have BK361 := n5_; have HB := n6_; clear n0_ n1_ n2_ n3_ n4_ n5_ n6_; (try clear hb); (try clear hb2); (try clear hk); (try clear hi)))
     go_meet
     case rel => exact ⟨_, (!t372), qdk9_22, H', ⟨(by first | omega | exact Nat.le_refl _)⟩, ⟨(rdk9_6 HO344)⟩, ⟨(rdk9_6 HO347)⟩, ⟨(rdk9_6 HO355)⟩, ⟨(rdk9_6 HO358)⟩, ⟨(rdk9_1 BK352)⟩, ⟨(rdk9_1 BK361)⟩, ⟨(rdk9_10 HB GE352 GE361)⟩⟩
    replace c24 := Bool.eq_false_iff.mpr c24
    subst c24
    have H1 : (laws_FnDictKept.j0 k t349 t350 t351 true t342 t345 t348 t353 t356 t359) = some r := by rw [if_neg (show ¬ (false = true) by decide)] at H; exact H
    clear H
    have H := H1
    clear H1
    have H' := Aside0.mk H
    clear H
    have hnb31 := NB361_352.out
    have hnc31 := NB352_361.out
    have hcz32_0 : w21.cell? ⟨gb361, 0, none⟩ = some (.slice Ao16 t353.length co16) := (blk_cell BK361.out 0).trans rfl
    have hcz32_1 : w21.cell? ⟨gb361, 1, none⟩ = some (.slice Ao19 t356.length co19) := (blk_cell BK361.out 1).trans rfl
    have hcz32_2 : w21.cell? ⟨gb361, 2, none⟩ = some (.int .i64 t359) := (blk_cell BK361.out 2).trans rfl
    have hfz32_0 := blk_frozen BK361.out 0
    have hfz32_1 := blk_frozen BK361.out 1
    have hfz32_2 := blk_frozen BK361.out 2
    go_wp2_with (first | (go_at_call 20; (with_reducible refine (spec_DictOk.calls k _ _ t353 _ _ t356 t359 false _ ?side1 ?side2 ?side3 ?side4 A23.out).mono ?_); (case side1 => exact (qdk9_9 HO355)); (case side2 => exact (Kd.R_reads' HO355.out).2.1); (case side3 => exact (qdk9_9 HO358)); (case side4 => exact (Kd.R_reads' HO358.out).2.1); rintro e w33 ⟨rfl, hb⟩; have n0_ := Aside0.mk (Kd.R_below (qdk9_1 HO344) hb); have n1_ := Aside0.mk (Kd.R_below (qdk9_1 HO347) hb); have n2_ := Aside0.mk (Kd.R_below (qdk9_1 HO355) hb); have n3_ := Aside0.mk (Kd.R_below (qdk9_1 HO358) hb); have n4_ := Aside0.mk (blk_below (g := gb352) (o := .cells #[.slice Ao11 t342.length co11, .slice Ao13 t345.length co13, .int .i64 t348] 25 (0, 0)) (qdk9_2 BK352) hb); have n5_ := Aside0.mk (blk_below (g := gb361) (o := .cells #[.slice Ao16 t353.length co16, .slice Ao19 t356.length co19, .int .i64 t359] 25 (0, 0)) (qdk9_2 BK361) hb); have n6_ := Aside0.mk (below_step (qdk9_8 HB GE352 GE361) hb); clear HO344 HO347 HO355 HO358 BK352 BK361 HB; have HO344 := n0_; have HO347 := n1_; have HO355 := n2_; have HO358 := n3_; have BK352 := n4_; have BK361 := n5_; have HB := n6_; clear n0_ n1_ n2_ n3_ n4_ n5_ n6_; (try clear hb); (try clear hb2); (try clear hk); (try clear hi)))
    go_meet
    case rel => exact ⟨_, (true), qdk9_22, H', ⟨(by first | omega | exact Nat.le_refl _)⟩, ⟨(rdk9_6 HO344)⟩, ⟨(rdk9_6 HO347)⟩, ⟨(rdk9_6 HO355)⟩, ⟨(rdk9_6 HO358)⟩, ⟨(rdk9_1 BK352)⟩, ⟨(rdk9_1 BK361)⟩, ⟨(rdk9_10 HB GE352 GE361)⟩⟩
   replace c22 := Bool.eq_false_iff.mpr c22
   subst c22
   have H1 : (laws_FnDictKept.j0 k t349 t350 t351 true t342 t345 t348 t353 t356 t359) = some r := by rw [if_neg (show ¬ (false = true) by decide)] at H; exact H
   clear H
   have H := H1
   clear H1
   have H' := Aside0.mk H
   clear H
   go_wp2
   go_meet
   case rel => exact ⟨_, (true), qdk9_22, H', ⟨(by first | omega | exact Nat.le_refl _)⟩, ⟨(rdk9_6 HO344)⟩, ⟨(rdk9_6 HO347)⟩, ⟨(rdk9_6 HO355)⟩, ⟨(rdk9_6 HO358)⟩, ⟨(rdk9_1 BK352)⟩, ⟨(rdk9_1 BK361)⟩, ⟨(rdk9_10 HB GE352 GE361)⟩⟩
  case rest =>
   clear HC8
   (try clear c1);(try clear c2);(try clear p2);(try clear c3);(try clear c7);(try clear c9);(try clear c16);(try clear c17);(try clear c20);(try clear c22);(try clear c24);(try clear c26);(try clear c31);(try clear hcz12_0);(try clear hcz12_1);(try clear hcz12_2);(try clear hcz18_0);(try clear hcz18_1);(try clear hcz18_2);(try clear hcz20_0);(try clear hcz20_1);(try clear hcz20_2);(try clear hcz27_0);(try clear hcz27_1);(try clear hcz27_2);(try clear hcz29_0);(try clear hcz29_1);(try clear hcz29_2);(try clear hcz32_0);(try clear hcz32_1);(try clear hcz32_2);(try clear hfz12_0);(try clear hfz12_1);(try clear hfz12_2);(try clear hfz18_0);(try clear hfz18_1);(try clear hfz18_2);(try clear hfz20_0);(try clear hfz20_1);(try clear hfz20_2);(try clear hfz27_0);(try clear hfz27_1);(try clear hfz27_2);(try clear hfz29_0);(try clear hfz29_1);(try clear hfz29_2);(try clear hfz32_0);(try clear hfz32_1);(try clear hfz32_2)
   obtain ⟨kq, x63_7, rfl, HA, HJ7, HO_353000, HO_353001, HO_362000, HO_362001, BK352, BK361, HB⟩ := hcut
   cases kq with
   | zero => exact absurd HA.out (by simp [laws_FnDictKept.j0])
   | succ kj7 =>
    have H := HA.out
    clear HA
    simp only [laws_FnDictKept.j0] at H
    by_cases c34 : x63_7 = true
    ·subst c34
     have H1 : (none) = some r := by rw [if_pos rfl] at H; exact H
     clear H
     have H := H1
     clear H1
     exact absurd H (by simp)
    replace c34 := Bool.eq_false_iff.mpr c34
    subst c34
    have H1 : ((impl_DictFind.f t353 t356 t359 t349 t350).bind fun bt373 => (if bt373.1 < 0 then (laws_FnDictKept.j1 kj7 t349 t350 true t342 t345 t348 t353 t356 t359) else (if bt373.2 < 1 then (laws_FnDictKept.j1 kj7 t349 t350 true t342 t345 t348 t353 t356 t359) else (if 0 ≤ bt373.1 then (if bt373.1 < (t356.length : Int) then (laws_FnDictKept.j1 kj7 t349 t350 (((rd_T62 t356 bt373.1).f2) != t351) t342 t345 t348 t353 t356 t359) else (none)) else (none))))) = some r := by rw [if_neg (show ¬ (false = true) by decide)] at H; exact H
    clear H
    have H := H1
    clear H1
    replace H := Option.bind_eq_some_iff.mp H
    obtain ⟨⟨t373, t374⟩, A350, H⟩ := H
    replace H : (if t373 < 0 then (laws_FnDictKept.j1 kj7 t349 t350 true t342 t345 t348 t353 t356 t359) else (if t374 < 1 then (laws_FnDictKept.j1 kj7 t349 t350 true t342 t345 t348 t353 t356 t359) else (if 0 ≤ t373 then (if t373 < (t356.length : Int) then (laws_FnDictKept.j1 kj7 t349 t350 (((rd_T62 t356 t373).f2) != t351) t342 t345 t348 t353 t356 t359) else (none)) else (none)))) = some r := H
    have A35 := Aside0.mk A350
    clear A350
    have HC36 := Aside0.mk H
    clear H
    have hnb37 := NB361_352.out
    have hnc37 := NB352_361.out
    have hcz38_0 : wc.cell? ⟨gb361, 0, none⟩ = some (.slice Ao16 t353.length co16) := (blk_cell BK361.out 0).trans rfl
    have hcz38_1 : wc.cell? ⟨gb361, 1, none⟩ = some (.slice Ao19 t356.length co19) := (blk_cell BK361.out 1).trans rfl
    have hcz38_2 : wc.cell? ⟨gb361, 2, none⟩ = some (.int .i64 t359) := (blk_cell BK361.out 2).trans rfl
    have hfz38_0 := blk_frozen BK361.out 0
    have hfz38_1 := blk_frozen BK361.out 1
    have hfz38_2 := blk_frozen BK361.out 2
    go_upto_region 10 with (first | ((with_reducible refine gate_callee (f := 24) rfl ?_); refine goesL_ (some 68) rfl rfl Try.func24 qdk9_26 rfl #[.agg #[.slice Ao16 t353.length co16, .slice Ao19 t356.length co19, .int .i64 t359], .int .u64 t349, .int .i64 t350] rfl qdk9_14 ?_; (with_reducible refine (impl_DictFind.calls _ _ t353 _ _ t356 t359 t349 t350 t373 t374 _ ?side1 ?side2 ?side3 ?side4 A35.out).mono ?_); (case side1 => exact (qdk9_9 HO_362000)); (case side2 => exact (Kd.R_reads' HO_362000.out).2.1); (case side3 => exact (qdk9_9 HO_362001)); (case side4 => exact (Kd.R_reads' HO_362001.out).2.1); rintro e w39 ⟨rfl, hb⟩; refine ⟨_, rfl, ?_⟩; have n0_ := Aside0.mk (Kd.R_below (qdk9_1 HO_353000) hb); have n1_ := Aside0.mk (Kd.R_below (qdk9_1 HO_353001) hb); have n2_ := Aside0.mk (Kd.R_below (qdk9_1 HO_362000) hb); have n3_ := Aside0.mk (Kd.R_below (qdk9_1 HO_362001) hb); have n4_ := Aside0.mk (blk_below (g := gb352) (o := .cells #[.slice Ao11 t342.length co11, .slice Ao13 t345.length co13, .int .i64 t348] 25 (0, 0)) (qdk9_2 BK352) hb); have n5_ := Aside0.mk (blk_below (g := gb361) (o := .cells #[.slice Ao16 t353.length co16, .slice Ao19 t356.length co19, .int .i64 t359] 25 (0, 0)) (qdk9_2 BK361) hb); have n6_ := Aside0.mk (below_step (qdk9_8 HB GE352 GE361) hb); clear HO_353000 HO_353001 HO_362000 HO_362001 BK352 BK361 HB; have HO_353000 := n0_; have HO_353001 := n1_; have HO_362000 := n2_; have HO_362001 := n3_; have BK352 := n4_; have BK361 := n5_; have HB := n6_; clear n0_ n1_ n2_ n3_ n4_ n5_ n6_; (try clear hb); (try clear hb2); (try clear hk); (try clear hi)))
    (try simp only [Act.put, List.setIfInBounds_toArray, List.set_cons_zero, List.set_cons_succ])
    go_cut [86] (fun v86 wc => ∃ (kq : Nat) (x86_35 : Bool), v86 = .bool x86_35 ∧ Aside0 (laws_FnDictKept.j1 kq t349 t350 x86_35 t342 t345 t348 t353 t356 t359 = some r) ∧ Aside0 (kq ≤ kj7) ∧ Aside0 (Kd.R (Kd.int .i64) 2 wc w.heap.size (fun k_ => some k_ ≠ ((.slice Ao16 t353.length co16) : Value).ownBlock) (.slice Ao11 t342.length co11) t342) ∧ Aside0 (Kd.R k62 62 wc w.heap.size (fun k_ => some k_ ≠ ((.slice Ao19 t356.length co19) : Value).ownBlock) (.slice Ao13 t345.length co13) t345) ∧ Aside0 (Kd.R (Kd.int .i64) 2 wc w.heap.size (fun k_ => some k_ ≠ ((.slice Ao11 t342.length co11) : Value).ownBlock) (.slice Ao16 t353.length co16) t353) ∧ Aside0 (Kd.R k62 62 wc w.heap.size (fun k_ => some k_ ≠ ((.slice Ao13 t345.length co13) : Value).ownBlock) (.slice Ao19 t356.length co19) t356) ∧ Aside0 (wc.heap[gb352]? = some (.cells #[(.slice Ao11 t342.length co11), (.slice Ao13 t345.length co13), .int .i64 t348] 25 (0, 0))) ∧ Aside0 (wc.heap[gb361]? = some (.cells #[(.slice Ao16 t353.length co16), (.slice Ao19 t356.length co19), .int .i64 t359] 25 (0, 0))) ∧ Aside0 (Below w.heap.size w wc))
    case first =>
     have H := HC36.out
     clear HC36
     by_cases c40 : t373 < 0
     ·rw [if_pos c40] at H
      have c40b0 : decide (t373 < 0) = true := decide_eq_true c40
      clear c40
      (first | rw [c40b0] | (simp only [i64_w, i32_w]; rw [c40b0]) | skip)
      have H' := Aside0.mk H
      clear H
      go_wp2
      go_meet
      case rel => exact ⟨_, (true), qdk9_22, H', ⟨(by have := HJ7.out; first | omega | exact Nat.le_refl _)⟩, ⟨(rdk9_2 HO_353000)⟩, ⟨(rdk9_2 HO_353001)⟩, ⟨(rdk9_2 HO_362000)⟩, ⟨(rdk9_2 HO_362001)⟩, ⟨(rdk9_1 BK352)⟩, ⟨(rdk9_1 BK361)⟩, ⟨(rdk9_10 HB GE352 GE361)⟩⟩
     rw [if_neg c40] at H
     have c40b0 : decide (t373 < 0) = false := decide_eq_false c40
     clear c40
     (first | rw [c40b0] | (simp only [i64_w, i32_w]; rw [c40b0]) | skip)
     by_cases c41 : t374 < 1
     ·rw [if_pos c41] at H
      have c41b0 : decide (t374 < 1) = true := decide_eq_true c41
      clear c41
      have H' := Aside0.mk H
      clear H
      go_wp2
      go_meet
      case rel => exact ⟨_, (true), qdk9_22, H', ⟨(by have := HJ7.out; first | omega | exact Nat.le_refl _)⟩, ⟨(rdk9_2 HO_353000)⟩, ⟨(rdk9_2 HO_353001)⟩, ⟨(rdk9_2 HO_362000)⟩, ⟨(rdk9_2 HO_362001)⟩, ⟨(rdk9_1 BK352)⟩, ⟨(rdk9_1 BK361)⟩, ⟨(rdk9_10 HB GE352 GE361)⟩⟩
     rw [if_neg c41] at H
     have c41b0 : decide (t374 < 1) = false := decide_eq_false c41
     clear c41
     by_cases c42 : 0 ≤ t373
     ·rw [if_pos c42] at H
      have c42b0 : decide (0 ≤ t373) = true := decide_eq_true c42
      clear c42
      by_cases c43 : t373 < (t356.length : Int)
      ·rw [if_pos c43] at H
       have c43b0 : decide (t373 < (t356.length : Int)) = true := decide_eq_true c43
       clear c43
       have H' := Aside0.mk H
       clear H
       have hnb44 := NB361_352.out
       have hnc44 := NB352_361.out
       have hcz45_0 : w39.cell? ⟨gb361, 0, none⟩ = some (.slice Ao16 t353.length co16) := (blk_cell BK361.out 0).trans rfl
       have hcz45_1 : w39.cell? ⟨gb361, 1, none⟩ = some (.slice Ao19 t356.length co19) := (blk_cell BK361.out 1).trans rfl
       have hcz45_2 : w39.cell? ⟨gb361, 2, none⟩ = some (.int .i64 t359) := (blk_cell BK361.out 2).trans rfl
       have hfz45_0 := blk_frozen BK361.out 0
       have hfz45_1 := blk_frozen BK361.out 1
       have hfz45_2 := blk_frozen BK361.out 2
       have p375 : 0 ≤ (t373 : Int) := of_decide_eq_true qdk9_21
       have q375 : t373 < (t356.length : Int) := of_decide_eq_true qdk9_21
       obtain ⟨ad375, e375, hx375_0, hx375_1, hx375_2, hx375_3⟩ := at_T62 (Kd.R_reads' HO_362001.out).2.2 t373 p375 q375
       cases e375
       replace p375 := eq_true p375
       replace q375 := eq_true q375
       go_wp2
       go_meet
       case rel => exact ⟨_, ((((rd_T62 t356 t373).f2) != t351)), qdk9_22, H', ⟨(by have := HJ7.out; first | omega | exact Nat.le_refl _)⟩, ⟨(rdk9_2 HO_353000)⟩, ⟨(rdk9_2 HO_353001)⟩, ⟨(rdk9_2 HO_362000)⟩, ⟨(rdk9_2 HO_362001)⟩, ⟨(rdk9_1 BK352)⟩, ⟨(rdk9_1 BK361)⟩, ⟨(rdk9_10 HB GE352 GE361)⟩⟩
      rw [if_neg c43] at H
      exact absurd H (by simp)
     rw [if_neg c42] at H
     exact absurd H (by simp)
    case rest =>
     clear HC36
     (try clear c1);(try clear c2);(try clear p2);(try clear c3);(try clear p3);(try clear q3);(try clear hx3);(try clear c4);(try clear c7);(try clear c9);(try clear c16);(try clear c17);(try clear c20);(try clear c22);(try clear c24);(try clear c26);(try clear c31);(try clear c34);(try clear c35);(try clear c36);(try clear c37);(try clear p37);(try clear q37);(try clear hx37);(try clear c40);(try clear c40b0);(try clear c41);(try clear c41b0);(try clear c42);(try clear c42b0);(try clear c43);(try clear c43b0);(try clear c44);(try clear hcz12_0);(try clear hcz12_1);(try clear hcz12_2);(try clear hcz18_0);(try clear hcz18_1);(try clear hcz18_2);(try clear hcz20_0);(try clear hcz20_1);(try clear hcz20_2);(try clear hcz27_0);(try clear hcz27_1);(try clear hcz27_2);(try clear hcz29_0);(try clear hcz29_1);(try clear hcz29_2);(try clear hcz32_0);(try clear hcz32_1);(try clear hcz32_2);(try clear hcz38_0);(try clear hcz38_1);(try clear hcz38_2);(try clear hcz45_0);(try clear hcz45_1);(try clear hcz45_2);(try clear hfz12_0);(try clear hfz12_1);(try clear hfz12_2);(try clear hfz18_0);(try clear hfz18_1);(try clear hfz18_2);(try clear hfz20_0);(try clear hfz20_1);(try clear hfz20_2);(try clear hfz27_0);(try clear hfz27_1);(try clear hfz27_2);(try clear hfz29_0);(try clear hfz29_1);(try clear hfz29_2);(try clear hfz32_0);(try clear hfz32_1);(try clear hfz32_2);(try clear hfz38_0);(try clear hfz38_1);(try clear hfz38_2);(try clear hfz45_0);(try clear hfz45_1);(try clear hfz45_2);(try clear hx375_0);(try clear hx375_1);(try clear hx375_2);(try clear hx375_3);(try clear p2);(try clear p375);(try clear q375)
     obtain ⟨kq, x86_35, rfl, HA, HJ35, HO_353000, HO_353001, HO_362000, HO_362001, BK352, BK361, HB⟩ := hcut
     cases kq with
     | zero => exact absurd HA.out (by simp [laws_FnDictKept.j1])
     | succ kj35 =>
      have H := HA.out
      clear HA
      simp only [laws_FnDictKept.j1] at H
      by_cases c46 : x86_35 = true
      ·subst c46
       have H1 : (none) = some r := by rw [if_pos rfl] at H; exact H
       clear H
       have H := H1
       clear H1
       exact absurd H (by simp)
      replace c46 := Bool.eq_false_iff.mpr c46
      subst c46
      have H1 : ((impl_DictCut.f t353 t356 t359 t349 t350).bind fun bt376 => ((impl_DictFind.f bt376.1 bt376.2.1 bt376.2.2.1 t349 t350).bind fun bt385 => (if bt376.2.2.2 = true then (if bt385.1 = (-1) then ((spec_DictOk.f kj35 bt376.1 bt376.2.1 bt376.2.2.1).bind fun t387 => (laws_FnDictKept.j2 kj35 t349 t350 (!t387) t342 t345 t348 bt376.1 bt376.2.1 bt376.2.2.1)) else (laws_FnDictKept.j2 kj35 t349 t350 true t342 t345 t348 bt376.1 bt376.2.1 bt376.2.2.1)) else (laws_FnDictKept.j2 kj35 t349 t350 true t342 t345 t348 bt376.1 bt376.2.1 bt376.2.2.1)))) = some r := by rw [if_neg (show ¬ (false = true) by decide)] at H; exact H
      clear H
      have H := H1
      clear H1
      replace H := Option.bind_eq_some_iff.mp H
      obtain ⟨⟨t376, t379, t382, t383⟩, A470, H⟩ := H
      replace H : ((impl_DictFind.f t376 t379 t382 t349 t350).bind fun bt385 => (if t383 = true then (if bt385.1 = (-1) then ((spec_DictOk.f kj35 t376 t379 t382).bind fun t387 => (laws_FnDictKept.j2 kj35 t349 t350 (!t387) t342 t345 t348 t376 t379 t382)) else (laws_FnDictKept.j2 kj35 t349 t350 true t342 t345 t348 t376 t379 t382)) else (laws_FnDictKept.j2 kj35 t349 t350 true t342 t345 t348 t376 t379 t382))) = some r := H
      have A47 := Aside0.mk A470
      clear A470
      replace H := Option.bind_eq_some_iff.mp H
      obtain ⟨⟨t385, t386⟩, A480, H⟩ := H
      replace H : (if t383 = true then (if t385 = (-1) then ((spec_DictOk.f kj35 t376 t379 t382).bind fun t387 => (laws_FnDictKept.j2 kj35 t349 t350 (!t387) t342 t345 t348 t376 t379 t382)) else (laws_FnDictKept.j2 kj35 t349 t350 true t342 t345 t348 t376 t379 t382)) else (laws_FnDictKept.j2 kj35 t349 t350 true t342 t345 t348 t376 t379 t382)) = some r := H
      have A48 := Aside0.mk A480
      clear A480
      have HC49 := Aside0.mk H
      clear H
      have hnb50 := NB361_352.out
      have hnc50 := NB352_361.out
      have hcz51_0 : wc.cell? ⟨gb361, 0, none⟩ = some (.slice Ao16 t353.length co16) := (blk_cell BK361.out 0).trans rfl
      have hcz51_1 : wc.cell? ⟨gb361, 1, none⟩ = some (.slice Ao19 t356.length co19) := (blk_cell BK361.out 1).trans rfl
      have hcz51_2 : wc.cell? ⟨gb361, 2, none⟩ = some (.int .i64 t359) := (blk_cell BK361.out 2).trans rfl
      have hfz51_0 := blk_frozen BK361.out 0
      have hfz51_1 := blk_frozen BK361.out 1
      have hfz51_2 := blk_frozen BK361.out 2
      go_upto_region 14 with (first | ((with_reducible refine gate_callee (f := 34) rfl ?_); refine goesL_ (some 91) rfl rfl Try.func34 qdk9_26 rfl #[.agg #[.slice Ao16 t353.length co16, .slice Ao19 t356.length co19, .int .i64 t359], .int .u64 t349, .int .i64 t350] rfl qdk9_14 ?_; (with_reducible refine (impl_DictCut.calls _ _ t353 _ _ t356 t359 t349 t350 t376 t379 t382 t383 _ ?side1 ?side2 ?side3 ?side4 A47.out).mono ?_); (case side1 => exact (qdk9_9 HO_362000)); (case side2 => exact (Kd.R_reads' HO_362000.out).2.1); (case side3 => exact (qdk9_9 HO_362001)); (case side4 => exact (Kd.R_reads' HO_362001.out).2.1); rintro e w52 ⟨v377, v380, rfl, ho0, ho1, hb⟩; refine ⟨_, rfl, ?_⟩; have n0_ := Aside0.mk (Kd.R_elder' (qdk9_1 HO_353000) (Kd.R_base ho0) hb); have n1_ := Aside0.mk (Kd.R_elder' (qdk9_1 HO_353001) (Kd.R_base ho1) hb); have n2_ := Aside0.mk (Kd.R_elder' (qdk9_1 HO_362000) (Kd.R_base ho0) hb); have n3_ := Aside0.mk (Kd.R_elder' (qdk9_1 HO_362001) (Kd.R_base ho1) hb); have n4_ := Aside0.mk (Kd.R_lower (Kd.R_new' (Kd.R_new' ho0 (Kd.R_lt (qdk9_1 HO_353000))) (Kd.R_lt (qdk9_1 HO_362000))) (below_size (qdk9_8 HB GE352 GE361))); have n5_ := Aside0.mk (Kd.R_lower (Kd.R_new' (Kd.R_new' ho1 (Kd.R_lt (qdk9_1 HO_353001))) (Kd.R_lt (qdk9_1 HO_362001))) (below_size (qdk9_8 HB GE352 GE361))); have n6_ := Aside0.mk (blk_below (g := gb352) (o := .cells #[.slice Ao11 t342.length co11, .slice Ao13 t345.length co13, .int .i64 t348] 25 (0, 0)) (qdk9_2 BK352) hb); have n7_ := Aside0.mk (blk_below (g := gb361) (o := .cells #[.slice Ao16 t353.length co16, .slice Ao19 t356.length co19, .int .i64 t359] 25 (0, 0)) (qdk9_2 BK361) hb); have n8_ := Aside0.mk (below_step (qdk9_8 HB GE352 GE361) hb); clear HO_353000 HO_353001 HO_362000 HO_362001 BK352 BK361 HB; have HO_353000 := n0_; have HO_353001 := n1_; have HO_362000 := n2_; have HO_362001 := n3_; have HO378 := n4_; have HO381 := n5_; have BK352 := n6_; have BK361 := n7_; have HB := n8_; clear n0_ n1_ n2_ n3_ n4_ n5_ n6_ n7_ n8_; (try clear hb); (try clear hb2); (try clear hk); (try clear hi); (try clear ho0); (try clear ho1)) | ((with_reducible refine gate_dst (N := 11) rfl ?_); (try (refine gate_guard (by rfl) ?_; dsimp only)); refine box_event ?hg (N := 11) ?hd (cs := #[.slice none 0 0, .slice none 0 0, .int .i64 0]) (t := 25) ?hr ?_; (case hd => rfl); (case hg => rfl); (case hr => exact qdk9_24); intro gb384 hg w53 hbox hb; have n0_ := Aside0.mk (Kd.R_below (qdk9_1 HO_353000) hb); have n1_ := Aside0.mk (Kd.R_below (qdk9_1 HO_353001) hb); have n2_ := Aside0.mk (Kd.R_below (qdk9_1 HO_362000) hb); have n3_ := Aside0.mk (Kd.R_below (qdk9_1 HO_362001) hb); have n4_ := Aside0.mk (Kd.R_below (qdk9_1 HO378) hb); have n5_ := Aside0.mk (Kd.R_below (qdk9_1 HO381) hb); have n6_ := Aside0.mk (blk_below (g := gb352) (o := .cells #[.slice Ao11 t342.length co11, .slice Ao13 t345.length co13, .int .i64 t348] 25 (0, 0)) (qdk9_2 BK352) hb); have n7_ := Aside0.mk (blk_below (g := gb361) (o := .cells #[.slice Ao16 t353.length co16, .slice Ao19 t356.length co19, .int .i64 t359] 25 (0, 0)) (qdk9_2 BK361) hb); have n8_ := Aside0.mk (below_step (qdk9_8 HB GE352 GE361) hb); have n9_ := Aside0.mk (hbox); have n10_ := Aside0.mk ((by rw [hg]; exact (below_size (qdk9_8 HB GE352 GE361)) : w.heap.size ≤ gb384)); have n11_ := Aside0.mk ((by rw [hg]; exact (below_size (qdk9_8 HB GE352 GE361)) : w.heap.size ≤ gb384)); have n12_ := Aside0.mk ((qnl_pdkx9 BK352 hg : gb352 ≠ gb384)); have n13_ := Aside0.mk ((qng_pdkx9 BK352 hg : gb384 ≠ gb352)); have n14_ := Aside0.mk ((qnl_pdkx9 BK361 hg : gb361 ≠ gb384)); have n15_ := Aside0.mk ((qng_pdkx9 BK361 hg : gb384 ≠ gb361)); clear HO_353000 HO_353001 HO_362000 HO_362001 HO378 HO381 BK352 BK361 HB; have HO_353000 := n0_; have HO_353001 := n1_; have HO_362000 := n2_; have HO_362001 := n3_; have HO378 := n4_; have HO381 := n5_; have BK352 := n6_; have BK361 := n7_; have HB := n8_; have BK384 := n9_; have GW384 := n10_; have GE384 := n11_; have NB352_384 := n12_; have NB384_352 := n13_; have NB361_384 := n14_; have NB384_361 := n15_; clear n0_ n1_ n2_ n3_ n4_ n5_ n6_ n7_ n8_ n9_ n10_ n11_ n12_ n13_ n14_ n15_; clear hb hbox hg; obtain ⟨Ao54, co54, eo54⟩ := Kd.R_slice HO378.out; subst eo54; have hnb55 := NB384_352.out; have hnc55 := NB352_384.out; have hnb56 := NB384_361.out; have hnc56 := NB361_384.out; have hcz57_0 : w53.cell? ⟨gb384, 0, none⟩ = some (.slice none 0 0) := (blk_cell BK384.out 0).trans rfl; have hcz57_1 : w53.cell? ⟨gb384, 1, none⟩ = some (.slice none 0 0) := (blk_cell BK384.out 1).trans rfl; have hcz57_2 : w53.cell? ⟨gb384, 2, none⟩ = some (.int .i64 0) := (blk_cell BK384.out 2).trans rfl; have hfz57_0 := blk_frozen BK384.out 0; have hfz57_1 := blk_frozen BK384.out 1; have hfz57_2 := blk_frozen BK384.out 2; obtain ⟨Ao58, co58, eo58⟩ := Kd.R_slice HO381.out; subst eo58) | ((with_reducible refine gate_callee (f := 24) rfl ?_); refine goesL_ (some 98) rfl rfl Try.func24 qdk9_26 rfl #[.agg #[.slice Ao54 t376.length co54, .slice Ao58 t379.length co58, .int .i64 t382], .int .u64 t349, .int .i64 t350] rfl qdk9_14 ?_; (with_reducible refine (impl_DictFind.calls _ _ t376 _ _ t379 t382 t349 t350 t385 t386 _ ?side1 ?side2 ?side3 ?side4 A48.out).mono ?_); (case side1 => exact (by refine (Kd.R_reads' (e := 2) (base := w.heap.size) (ok := fun k_ => ((True ∧ some k_ ≠ (.slice Ao11 t342.length co11 : Value).ownBlock) ∧ some k_ ≠ (.slice Ao16 t353.length co16 : Value).ownBlock)) (n := t376.length) (c := co54) ?_).2.2; exact (qdk9_6 HO378 BK384))); (case side2 => exact (Kd.R_reads' HO378.out).2.1); (case side3 => exact (by refine (Kd.R_reads' (e := 62) (base := w.heap.size) (ok := fun k_ => ((True ∧ some k_ ≠ (.slice Ao13 t345.length co13 : Value).ownBlock) ∧ some k_ ≠ (.slice Ao19 t356.length co19 : Value).ownBlock)) (n := t379.length) (c := co58) ?_).2.2; exact (qdk9_6 HO381 BK384))); (case side4 => exact (Kd.R_reads' HO381.out).2.1); rintro e w59 ⟨rfl, hb⟩; refine ⟨_, rfl, ?_⟩; have n0_ := Aside0.mk (Kd.R_below (qdk9_6 HO_353000 BK384) hb); have n1_ := Aside0.mk (Kd.R_below (qdk9_6 HO_353001 BK384) hb); have n2_ := Aside0.mk (Kd.R_below (qdk9_6 HO_362000 BK384) hb); have n3_ := Aside0.mk (Kd.R_below (qdk9_6 HO_362001 BK384) hb); have n4_ := Aside0.mk (Kd.R_below (qdk9_6 HO378 BK384) hb); have n5_ := Aside0.mk (Kd.R_below (qdk9_6 HO381 BK384) hb); have n6_ := Aside0.mk (blk_below (g := gb352) (o := .cells #[.slice Ao11 t342.length co11, .slice Ao13 t345.length co13, .int .i64 t348] 25 (0, 0)) (qdk9_16 NB352_384 BK352) hb); have n7_ := Aside0.mk (blk_below (g := gb361) (o := .cells #[.slice Ao16 t353.length co16, .slice Ao19 t356.length co19, .int .i64 t359] 25 (0, 0)) (qdk9_16 NB361_384 BK361) hb); have n8_ := Aside0.mk (blk_below (g := gb384) (o := .cells #[.slice Ao54 t376.length co54, .slice Ao58 t379.length co58, .int .i64 t382] 25 (0, 0)) (by (with_reducible repeat (first | refine blk_drewN ?_ _ | refine blk_drew ?_ | refine blk_alloc ?_ _)); refine blk_put (cs := #[.slice Ao54 t376.length co54, .slice Ao58 t379.length co58, .int .i64 0]) ?_ 2 _ rfl; (with_reducible repeat (first | refine blk_drewN ?_ _ | refine blk_drew ?_ | refine blk_alloc ?_ _)); refine blk_put (cs := #[.slice Ao54 t376.length co54, .slice none 0 0, .int .i64 0]) ?_ 1 _ rfl; (with_reducible repeat (first | refine blk_drewN ?_ _ | refine blk_drew ?_ | refine blk_alloc ?_ _)); refine blk_put (cs := #[.slice none 0 0, .slice none 0 0, .int .i64 0]) ?_ 0 _ rfl; (with_reducible repeat (first | refine blk_drewN ?_ _ | refine blk_drew ?_ | refine blk_alloc ?_ _)); exact BK384.out) hb); have n9_ := Aside0.mk (below_step (qdk9_4 HB GE352 GE361 GE384) hb); clear HO_353000 HO_353001 HO_362000 HO_362001 HO378 HO381 BK352 BK361 BK384 HB; have HO_353000 := n0_; have HO_353001 := n1_; have HO_362000 := n2_; have HO_362001 := n3_; have HO378 := n4_; have HO381 := n5_; have BK352 := n6_; have BK361 := n7_; have BK384 := n8_; have HB := n9_; clear n0_ n1_ n2_ n3_ n4_ n5_ n6_ n7_ n8_ n9_; (try clear hb); (try clear hb2); (try clear hk); (try clear hi)))
      (try simp only [Act.put, List.setIfInBounds_toArray, List.set_cons_zero, List.set_cons_succ])
      go_cut [111] (fun v111 wc => ∃ (kq : Nat) (x111_48 : Bool), v111 = .bool x111_48 ∧ Aside0 (laws_FnDictKept.j2 kq t349 t350 x111_48 t342 t345 t348 t376 t379 t382 = some r) ∧ Aside0 (kq ≤ kj35) ∧ Aside0 (Kd.R (Kd.int .i64) 2 wc w.heap.size (fun k_ => some k_ ≠ ((.slice Ao16 t353.length co16) : Value).ownBlock ∧ some k_ ≠ ((.slice Ao54 t376.length co54) : Value).ownBlock) (.slice Ao11 t342.length co11) t342) ∧ Aside0 (Kd.R k62 62 wc w.heap.size (fun k_ => some k_ ≠ ((.slice Ao19 t356.length co19) : Value).ownBlock ∧ some k_ ≠ ((.slice Ao58 t379.length co58) : Value).ownBlock) (.slice Ao13 t345.length co13) t345) ∧ Aside0 (Kd.R (Kd.int .i64) 2 wc w.heap.size (fun k_ => some k_ ≠ ((.slice Ao11 t342.length co11) : Value).ownBlock ∧ some k_ ≠ ((.slice Ao54 t376.length co54) : Value).ownBlock) (.slice Ao16 t353.length co16) t353) ∧ Aside0 (Kd.R k62 62 wc w.heap.size (fun k_ => some k_ ≠ ((.slice Ao13 t345.length co13) : Value).ownBlock ∧ some k_ ≠ ((.slice Ao58 t379.length co58) : Value).ownBlock) (.slice Ao19 t356.length co19) t356) ∧ Aside0 (Kd.R (Kd.int .i64) 2 wc w.heap.size (fun k_ => some k_ ≠ ((.slice Ao11 t342.length co11) : Value).ownBlock ∧ some k_ ≠ ((.slice Ao16 t353.length co16) : Value).ownBlock) (.slice Ao54 t376.length co54) t376) ∧ Aside0 (Kd.R k62 62 wc w.heap.size (fun k_ => some k_ ≠ ((.slice Ao13 t345.length co13) : Value).ownBlock ∧ some k_ ≠ ((.slice Ao19 t356.length co19) : Value).ownBlock) (.slice Ao58 t379.length co58) t379) ∧ Aside0 (wc.heap[gb352]? = some (.cells #[(.slice Ao11 t342.length co11), (.slice Ao13 t345.length co13), .int .i64 t348] 25 (0, 0))) ∧ Aside0 (wc.heap[gb361]? = some (.cells #[(.slice Ao16 t353.length co16), (.slice Ao19 t356.length co19), .int .i64 t359] 25 (0, 0))) ∧ Aside0 (wc.heap[gb384]? = some (.cells #[(.slice Ao54 t376.length co54), (.slice Ao58 t379.length co58), .int .i64 t382] 25 (0, 0))) ∧ Aside0 (Below w.heap.size w wc))
      case first =>
       have H := HC49.out
       clear HC49
       by_cases c60 : t383 = true
       ·subst c60
        have H1 : (if t385 = (-1) then ((spec_DictOk.f kj35 t376 t379 t382).bind fun t387 => (laws_FnDictKept.j2 kj35 t349 t350 (!t387) t342 t345 t348 t376 t379 t382)) else (laws_FnDictKept.j2 kj35 t349 t350 true t342 t345 t348 t376 t379 t382)) = some r := by rw [if_pos rfl] at H; exact H
        clear H
        have H := H1
        clear H1
        by_cases c61 : t385 = (-1)
        ·rw [if_pos c61] at H
         have c61b0 : (t385 == (-1)) = true := beq_iff_eq.mpr c61
         have c61b1 : (t385 != (-1)) = false := bne_eq_false_iff_eq.mpr c61
         clear c61
         (first | rw [c61b0] | (simp only [i64_w, i32_w]; rw [c61b0]) | skip)
         replace H := Option.bind_eq_some_iff.mp H
         obtain ⟨t387, A620, H⟩ := H
         replace H : (laws_FnDictKept.j2 kj35 t349 t350 (!t387) t342 t345 t348 t376 t379 t382) = some r := H
         have A62 := Aside0.mk A620
         clear A620
         have H' := Aside0.mk H
         clear H
         have hnb63 := NB384_352.out
         have hnc63 := NB352_384.out
         have hnb64 := NB384_361.out
         have hnc64 := NB361_384.out
         have hcz65_0 : w59.cell? ⟨gb384, 0, none⟩ = some (.slice Ao54 t376.length co54) := (blk_cell BK384.out 0).trans rfl
         have hcz65_1 : w59.cell? ⟨gb384, 1, none⟩ = some (.slice Ao58 t379.length co58) := (blk_cell BK384.out 1).trans rfl
         have hcz65_2 : w59.cell? ⟨gb384, 2, none⟩ = some (.int .i64 t382) := (blk_cell BK384.out 2).trans rfl
         have hfz65_0 := blk_frozen BK384.out 0
         have hfz65_1 := blk_frozen BK384.out 1
         have hfz65_2 := blk_frozen BK384.out 2
         go_wp2_with (first | (go_at_call 20; (with_reducible refine (spec_DictOk.calls kj35 _ _ t376 _ _ t379 t382 t387 _ ?side1 ?side2 ?side3 ?side4 A62.out).mono ?_); (case side1 => exact (qdk9_9 HO378)); (case side2 => exact (Kd.R_reads' HO378.out).2.1); (case side3 => exact (qdk9_9 HO381)); (case side4 => exact (Kd.R_reads' HO381.out).2.1); rintro e w66 ⟨rfl, hb⟩; have n0_ := Aside0.mk (Kd.R_below (qdk9_1 HO_353000) hb); have n1_ := Aside0.mk (Kd.R_below (qdk9_1 HO_353001) hb); have n2_ := Aside0.mk (Kd.R_below (qdk9_1 HO_362000) hb); have n3_ := Aside0.mk (Kd.R_below (qdk9_1 HO_362001) hb); have n4_ := Aside0.mk (Kd.R_below (qdk9_1 HO378) hb); have n5_ := Aside0.mk (Kd.R_below (qdk9_1 HO381) hb); have n6_ := Aside0.mk (blk_below (g := gb352) (o := .cells #[.slice Ao11 t342.length co11, .slice Ao13 t345.length co13, .int .i64 t348] 25 (0, 0)) (qdk9_2 BK352) hb); have n7_ := Aside0.mk (blk_below (g := gb361) (o := .cells #[.slice Ao16 t353.length co16, .slice Ao19 t356.length co19, .int .i64 t359] 25 (0, 0)) (qdk9_2 BK361) hb); have n8_ := Aside0.mk (blk_below (g := gb384) (o := .cells #[.slice Ao54 t376.length co54, .slice Ao58 t379.length co58, .int .i64 t382] 25 (0, 0)) (qdk9_2 BK384) hb); have n9_ := Aside0.mk (below_step (qdk9_4 HB GE352 GE361 GE384) hb); clear HO_353000 HO_353001 HO_362000 HO_362001 HO378 HO381 BK352 BK361 BK384 HB; have HO_353000 := n0_; have HO_353001 := n1_; have HO_362000 := n2_; have HO_362001 := n3_; have HO378 := n4_; have HO381 := n5_; have BK352 := n6_; have BK361 := n7_; have BK384 := n8_; have HB := n9_; clear n0_ n1_ n2_ n3_ n4_ n5_ n6_ n7_ n8_ n9_; (try clear hb); (try clear hb2); (try clear hk); (try clear hi)))
         go_meet
         case rel => exact ⟨_, (!t387), qdk9_22, H', ⟨(by have := HJ7.out; have := HJ35.out; first | omega | exact Nat.le_refl _)⟩, ⟨(rdk9_2 HO_353000)⟩, ⟨(rdk9_2 HO_353001)⟩, ⟨(rdk9_2 HO_362000)⟩, ⟨(rdk9_2 HO_362001)⟩, ⟨(rdk9_13 HO378)⟩, ⟨(rdk9_13 HO381)⟩, ⟨(rdk9_1 BK352)⟩, ⟨(rdk9_1 BK361)⟩, ⟨(rdk9_1 BK384)⟩, ⟨(rdk9_7 HB GE352 GE361 GE384)⟩⟩
        rw [if_neg c61] at H
        have c61b0 : (t385 == (-1)) = false := beq_eq_false_iff_ne.mpr c61
        have c61b1 : (t385 != (-1)) = true := bne_iff_ne.mpr c61
        (first | rw [c61b0] | (simp only [i64_w, i32_w]; rw [c61b0]) | skip)
        have H' := Aside0.mk H
        clear H
        go_wp2
        go_meet
        case rel => exact ⟨_, (true), qdk9_22, H', ⟨(by have := HJ7.out; have := HJ35.out; first | omega | exact Nat.le_refl _)⟩, ⟨(rdk9_2 HO_353000)⟩, ⟨(rdk9_2 HO_353001)⟩, ⟨(rdk9_2 HO_362000)⟩, ⟨(rdk9_2 HO_362001)⟩, ⟨(rdk9_13 HO378)⟩, ⟨(rdk9_13 HO381)⟩, ⟨(rdk9_1 BK352)⟩, ⟨(rdk9_1 BK361)⟩, ⟨(rdk9_1 BK384)⟩, ⟨(rdk9_7 HB GE352 GE361 GE384)⟩⟩
       replace c60 := Bool.eq_false_iff.mpr c60
       subst c60
       have H1 : (laws_FnDictKept.j2 kj35 t349 t350 true t342 t345 t348 t376 t379 t382) = some r := by rw [if_neg (show ¬ (false = true) by decide)] at H; exact H
       clear H
       have H := H1
       clear H1
       have H' := Aside0.mk H
       clear H
       go_wp2
       go_meet
       case rel => exact ⟨_, (true), qdk9_22, H', ⟨(by have := HJ7.out; have := HJ35.out; first | omega | exact Nat.le_refl _)⟩, ⟨(rdk9_2 HO_353000)⟩, ⟨(rdk9_2 HO_353001)⟩, ⟨(rdk9_2 HO_362000)⟩, ⟨(rdk9_2 HO_362001)⟩, ⟨(rdk9_13 HO378)⟩, ⟨(rdk9_13 HO381)⟩, ⟨(rdk9_1 BK352)⟩, ⟨(rdk9_1 BK361)⟩, ⟨(rdk9_1 BK384)⟩, ⟨(rdk9_7 HB GE352 GE361 GE384)⟩⟩
      case rest =>
       clear HC49
       (try clear c1);(try clear c2);(try clear p2);(try clear c3);(try clear p3);(try clear q3);(try clear hx3);(try clear c4);(try clear c5);(try clear c6);(try clear c7);(try clear c9);(try clear c16);(try clear c17);(try clear c20);(try clear c22);(try clear c24);(try clear c26);(try clear c31);(try clear c34);(try clear c35);(try clear c36);(try clear c37);(try clear p37);(try clear q37);(try clear hx37);(try clear c40);(try clear c40b0);(try clear c41);(try clear c41b0);(try clear c42);(try clear c42b0);(try clear c43);(try clear c43b0);(try clear c44);(try clear c46);(try clear c50);(try clear c55);(try clear c56);(try clear c60);(try clear c61);(try clear c61b0);(try clear c61b1);(try clear c63);(try clear c64);(try clear hcz12_0);(try clear hcz12_1);(try clear hcz12_2);(try clear hcz18_0);(try clear hcz18_1);(try clear hcz18_2);(try clear hcz20_0);(try clear hcz20_1);(try clear hcz20_2);(try clear hcz27_0);(try clear hcz27_1);(try clear hcz27_2);(try clear hcz29_0);(try clear hcz29_1);(try clear hcz29_2);(try clear hcz32_0);(try clear hcz32_1);(try clear hcz32_2);(try clear hcz38_0);(try clear hcz38_1);(try clear hcz38_2);(try clear hcz45_0);(try clear hcz45_1);(try clear hcz45_2);(try clear hcz51_0);(try clear hcz51_1);(try clear hcz51_2);(try clear hcz57_0);(try clear hcz57_1);(try clear hcz57_2);(try clear hcz65_0);(try clear hcz65_1);(try clear hcz65_2);(try clear hfz12_0);(try clear hfz12_1);(try clear hfz12_2);(try clear hfz18_0);(try clear hfz18_1);(try clear hfz18_2);(try clear hfz20_0);(try clear hfz20_1);(try clear hfz20_2);(try clear hfz27_0);(try clear hfz27_1);(try clear hfz27_2);(try clear hfz29_0);(try clear hfz29_1);(try clear hfz29_2);(try clear hfz32_0);(try clear hfz32_1);(try clear hfz32_2);(try clear hfz38_0);(try clear hfz38_1);(try clear hfz38_2);(try clear hfz45_0);(try clear hfz45_1);(try clear hfz45_2);(try clear hfz51_0);(try clear hfz51_1);(try clear hfz51_2);(try clear hfz57_0);(try clear hfz57_1);(try clear hfz57_2);(try clear hfz65_0);(try clear hfz65_1);(try clear hfz65_2);(try clear hx375_0);(try clear hx375_1);(try clear hx375_2);(try clear hx375_3);(try clear p2);(try clear p3);(try clear p37);(try clear p375);(try clear q3);(try clear q37);(try clear q375)
       obtain ⟨kq, x111_48, rfl, HA, HJ48, HO_353000, HO_353001, HO_362000, HO_362001, HO_385000, HO_385001, BK352, BK361, BK384, HB⟩ := hcut
       cases kq with
       | zero => exact absurd HA.out (by simp [laws_FnDictKept.j2])
       | succ kj48 =>
        have H := HA.out
        clear HA
        simp only [laws_FnDictKept.j2] at H
        by_cases c67 : x111_48 = true
        ·subst c67
         have H1 : (none) = some r := by rw [if_pos rfl] at H; exact H
         clear H
         have H := H1
         clear H1
         exact absurd H (by simp)
        replace c67 := Bool.eq_false_iff.mpr c67
        subst c67
        have H1 : (laws_FnDictKept.l0 kj48 t349 t350 (([] : List Int)) 0 t342 t345 t348 t376 t379 t382) = some r := by rw [if_neg (show ¬ (false = true) by decide)] at H; exact H
        clear H
        have H := H1
        clear H1
        obtain ⟨y388, hy388⟩ : ∃ y_ : List Int, y_ = (([] : List Int)) := ⟨_, rfl⟩
        replace H : (laws_FnDictKept.l0 kj48 t349 t350 y388 0 t342 t345 t348 t376 t379 t382) = some r := by first | (rw [hy388]; with_reducible exact H) | (have H2_ := (Option.bind_some _ _).symm.trans H; rw [hy388]; with_reducible exact H2_) | (have H2_ := (Option.bind_some _ _).symm.trans H; with_reducible exact H2_) | with_reducible exact H | (rw [hy388]; exact H) | exact H
        have Ny388 := Aside0.mk hy388
        clear hy388
        have H' := Aside0.mk H
        clear H
        go_wp2_with (first | ((with_reducible refine gate_dst (N := 112) rfl ?_); (try (refine gate_guard (by rfl) ?_; dsimp only)); refine Kd.R_lit (Kd.int .i64) _ 2 ?hg (N := 112) ?hd (xs := ([] : List Int)) (inner := []) (ok := fun _ => True) (okp := fun _ => True) ?hr ?hp (fun _ hk => hk) trivial (Below.refl _ _) (Nat.le_refl _) (by simp) ?_; (case hd => rfl); (case hg => rfl); (case hr => exact qdk9_24); (case hp => exact (Reps.none _ _)); intro v389 w68 ho69 hb hg_ hnew_; clear hg_ hnew_; (first | rw [← Ny388.out] at ho69 | (simp only [Int.reduceToNat] at ho69; rw [← Ny388.out] at ho69)); have n0_ := Aside0.mk (Kd.R_elder' (qdk9_1 HO_353000) (Kd.R_base ho69) hb); have n1_ := Aside0.mk (Kd.R_below (qdk9_1 HO_353001) hb); have n2_ := Aside0.mk (Kd.R_elder' (qdk9_1 HO_362000) (Kd.R_base ho69) hb); have n3_ := Aside0.mk (Kd.R_below (qdk9_1 HO_362001) hb); have n4_ := Aside0.mk (Kd.R_elder' (qdk9_1 HO_385000) (Kd.R_base ho69) hb); have n5_ := Aside0.mk (Kd.R_below (qdk9_1 HO_385001) hb); have n6_ := Aside0.mk (Kd.R_lower (Kd.R_new' (Kd.R_new' (Kd.R_new' ho69 (Kd.R_lt (qdk9_1 HO_353000))) (Kd.R_lt (qdk9_1 HO_362000))) (Kd.R_lt (qdk9_1 HO_385000))) (below_size (qdk9_4 HB GE352 GE361 GE384))); have n7_ := Aside0.mk (blk_below (g := gb352) (o := .cells #[.slice Ao11 t342.length co11, .slice Ao13 t345.length co13, .int .i64 t348] 25 (0, 0)) (qdk9_2 BK352) hb); have n8_ := Aside0.mk (blk_below (g := gb361) (o := .cells #[.slice Ao16 t353.length co16, .slice Ao19 t356.length co19, .int .i64 t359] 25 (0, 0)) (qdk9_2 BK361) hb); have n9_ := Aside0.mk (blk_below (g := gb384) (o := .cells #[.slice Ao54 t376.length co54, .slice Ao58 t379.length co58, .int .i64 t382] 25 (0, 0)) (qdk9_2 BK384) hb); have n10_ := Aside0.mk (below_step (qdk9_4 HB GE352 GE361 GE384) hb); clear HO_353000 HO_353001 HO_362000 HO_362001 HO_385000 HO_385001 BK352 BK361 BK384 HB; have HO_353000 := n0_; have HO_353001 := n1_; have HO_362000 := n2_; have HO_362001 := n3_; have HO_385000 := n4_; have HO_385001 := n5_; have HO390 := n6_; have BK352 := n7_; have BK361 := n8_; have BK384 := n9_; have HB := n10_; clear n0_ n1_ n2_ n3_ n4_ n5_ n6_ n7_ n8_ n9_ n10_; clear hb ho69))
        go_loopg [15, 16] kj48 (fun kq v15 v16 w' => ∃ (x15_4 : List Int) (x16_4 : Int), v16 = .int .i64 x16_4 ∧ Aside0 (laws_FnDictKept.l0 kq t349 t350 x15_4 x16_4 t342 t345 t348 t376 t379 t382 = some r) ∧ Aside0 (kq ≤ kj48) ∧ Aside0 (Kd.R (Kd.int .i64) 2 w' w.heap.size (fun k_ => some k_ ≠ ((.slice Ao11 t342.length co11) : Value).ownBlock ∧ some k_ ≠ ((.slice Ao16 t353.length co16) : Value).ownBlock ∧ some k_ ≠ ((.slice Ao54 t376.length co54) : Value).ownBlock) v15 x15_4) ∧ Aside0 (Kd.R (Kd.int .i64) 2 w' w.heap.size (fun k_ => some k_ ≠ (v15 : Value).ownBlock ∧ some k_ ≠ ((.slice Ao16 t353.length co16) : Value).ownBlock ∧ some k_ ≠ ((.slice Ao54 t376.length co54) : Value).ownBlock) (.slice Ao11 t342.length co11) t342) ∧ Aside0 (Kd.R k62 62 w' w.heap.size (fun k_ => some k_ ≠ ((.slice Ao19 t356.length co19) : Value).ownBlock ∧ some k_ ≠ ((.slice Ao58 t379.length co58) : Value).ownBlock) (.slice Ao13 t345.length co13) t345) ∧ Aside0 (Kd.R (Kd.int .i64) 2 w' w.heap.size (fun k_ => some k_ ≠ (v15 : Value).ownBlock ∧ some k_ ≠ ((.slice Ao11 t342.length co11) : Value).ownBlock ∧ some k_ ≠ ((.slice Ao54 t376.length co54) : Value).ownBlock) (.slice Ao16 t353.length co16) t353) ∧ Aside0 (Kd.R k62 62 w' w.heap.size (fun k_ => some k_ ≠ ((.slice Ao13 t345.length co13) : Value).ownBlock ∧ some k_ ≠ ((.slice Ao58 t379.length co58) : Value).ownBlock) (.slice Ao19 t356.length co19) t356) ∧ Aside0 (Kd.R (Kd.int .i64) 2 w' w.heap.size (fun k_ => some k_ ≠ (v15 : Value).ownBlock ∧ some k_ ≠ ((.slice Ao11 t342.length co11) : Value).ownBlock ∧ some k_ ≠ ((.slice Ao16 t353.length co16) : Value).ownBlock) (.slice Ao54 t376.length co54) t376) ∧ Aside0 (Kd.R k62 62 w' w.heap.size (fun k_ => some k_ ≠ ((.slice Ao13 t345.length co13) : Value).ownBlock ∧ some k_ ≠ ((.slice Ao19 t356.length co19) : Value).ownBlock) (.slice Ao58 t379.length co58) t379) ∧ Aside0 (w'.heap[gb352]? = some (.cells #[(.slice Ao11 t342.length co11), (.slice Ao13 t345.length co13), .int .i64 t348] 25 (0, 0))) ∧ Aside0 (w'.heap[gb361]? = some (.cells #[(.slice Ao16 t353.length co16), (.slice Ao19 t356.length co19), .int .i64 t359] 25 (0, 0))) ∧ Aside0 (w'.heap[gb384]? = some (.cells #[(.slice Ao54 t376.length co54), (.slice Ao58 t379.length co58), .int .i64 t382] 25 (0, 0))) ∧ Aside0 (Below w.heap.size w w'))
        case atStart => exact ⟨(y388), (0), qdk9_22, H', ⟨Nat.le_refl _⟩, ⟨(by (with_reducible repeat (first | apply Kd.R_alloc | apply Kd.R_drewN | apply Kd.R_drew)); exact Kd.R_mono HO390.out (fun _ hk => ⟨hk.1.1.2, ⟨hk.1.2, hk.2⟩⟩))⟩, ⟨(rdk9_17 HO_353000)⟩, ⟨(rdk9_2 HO_353001)⟩, ⟨(rdk9_17 HO_362000)⟩, ⟨(rdk9_2 HO_362001)⟩, ⟨(rdk9_17 HO_385000)⟩, ⟨(rdk9_2 HO_385001)⟩, ⟨(rdk9_1 BK352)⟩, ⟨(rdk9_1 BK361)⟩, ⟨(rdk9_1 BK384)⟩, ⟨(rdk9_7 HB GE352 GE361 GE384)⟩⟩
        case round =>
         clear H'
         (try clear c1);(try clear c2);(try clear p2);(try clear c3);(try clear p3);(try clear q3);(try clear hx3);(try clear c4);(try clear c5);(try clear c6);(try clear c7);(try clear c9);(try clear c16);(try clear c17);(try clear c20);(try clear c22);(try clear c24);(try clear c26);(try clear c31);(try clear c34);(try clear c35);(try clear c36);(try clear c37);(try clear p37);(try clear q37);(try clear hx37);(try clear c40);(try clear c40b0);(try clear c41);(try clear c41b0);(try clear c42);(try clear c42b0);(try clear c43);(try clear c43b0);(try clear c44);(try clear c46);(try clear c50);(try clear c55);(try clear c56);(try clear c60);(try clear c61);(try clear c61b0);(try clear c61b1);(try clear c63);(try clear c64);(try clear c67);(try clear hcz12_0);(try clear hcz12_1);(try clear hcz12_2);(try clear hcz18_0);(try clear hcz18_1);(try clear hcz18_2);(try clear hcz20_0);(try clear hcz20_1);(try clear hcz20_2);(try clear hcz27_0);(try clear hcz27_1);(try clear hcz27_2);(try clear hcz29_0);(try clear hcz29_1);(try clear hcz29_2);(try clear hcz32_0);(try clear hcz32_1);(try clear hcz32_2);(try clear hcz38_0);(try clear hcz38_1);(try clear hcz38_2);(try clear hcz45_0);(try clear hcz45_1);(try clear hcz45_2);(try clear hcz51_0);(try clear hcz51_1);(try clear hcz51_2);(try clear hcz57_0);(try clear hcz57_1);(try clear hcz57_2);(try clear hcz65_0);(try clear hcz65_1);(try clear hcz65_2);(try clear hfz12_0);(try clear hfz12_1);(try clear hfz12_2);(try clear hfz18_0);(try clear hfz18_1);(try clear hfz18_2);(try clear hfz20_0);(try clear hfz20_1);(try clear hfz20_2);(try clear hfz27_0);(try clear hfz27_1);(try clear hfz27_2);(try clear hfz29_0);(try clear hfz29_1);(try clear hfz29_2);(try clear hfz32_0);(try clear hfz32_1);(try clear hfz32_2);(try clear hfz38_0);(try clear hfz38_1);(try clear hfz38_2);(try clear hfz45_0);(try clear hfz45_1);(try clear hfz45_2);(try clear hfz51_0);(try clear hfz51_1);(try clear hfz51_2);(try clear hfz57_0);(try clear hfz57_1);(try clear hfz57_2);(try clear hfz65_0);(try clear hfz65_1);(try clear hfz65_2);(try clear hx375_0);(try clear hx375_1);(try clear hx375_2);(try clear hx375_3);(try clear p2);(try clear p3);(try clear p37);(try clear p375);(try clear q3);(try clear q37);(try clear q375)
         obtain ⟨x15_4, x16_4, rfl, HA, HK4, HO_15, HO_353000, HO_353001, HO_362000, HO_362001, HO_385000, HO_385001, BK352, BK361, BK384, HB⟩ := hrel
         cases gk with
         | zero => exact absurd HA.out (by simp [laws_FnDictKept.l0])
         | succ k4 =>
          have H := HA.out
          clear HA
          simp only [laws_FnDictKept.l0] at H
          by_cases c70 : x16_4 < (t345.length : Int)
          ·rw [if_pos c70] at H
           have c70b0 : decide (x16_4 < (t345.length : Int)) = true := decide_eq_true c70
           clear c70
           by_cases c71 : 0 ≤ x16_4
           ·rw [if_pos c71] at H
            have c71b0 : decide (0 ≤ x16_4) = true := decide_eq_true c71
            clear c71
            obtain ⟨bq72, hbq72⟩ : ∃ b_ : Bool, b_ = ((rd_T62 t345 x16_4).f3) := ⟨_, rfl⟩
            replace H : (if (bq72 = true) then (laws_FnDictKept.l0 k4 t349 t350 x15_4 (wrap64 (x16_4 + 1)) t342 t345 t348 t376 t379 t382) else (if ((rd_T62 t345 x16_4).f0) = t349 then (if (((rd_T62 t345 x16_4).f1) = t350) then (laws_FnDictKept.l0 k4 t349 t350 x15_4 (wrap64 (x16_4 + 1)) t342 t345 t348 t376 t379 t382) else ((some (([(rd_T62 t345 x16_4).f1, (rd_T62 t345 x16_4).f2] : List Int) : List Int)).bind fun y393 => (if x15_4.length + y393.length < 17592186044416 then (laws_FnDictKept.l0 k4 t349 t350 (x15_4 ++ y393) (wrap64 (x16_4 + 1)) t342 t345 t348 t376 t379 t382) else (none)))) else ((some (([(rd_T62 t345 x16_4).f1, (rd_T62 t345 x16_4).f2] : List Int) : List Int)).bind fun y399 => (if x15_4.length + y399.length < 17592186044416 then (laws_FnDictKept.l0 k4 t349 t350 (x15_4 ++ y399) (wrap64 (x16_4 + 1)) t342 t345 t348 t376 t379 t382) else (none))))) = some r := by rw [← hbq72] at H; exact H
            have Nbq72 := Aside0.mk hbq72
            clear hbq72
            by_cases c73 : (bq72 = true)
            ·subst c73
             have H1 : (laws_FnDictKept.l0 k4 t349 t350 x15_4 (wrap64 (x16_4 + 1)) t342 t345 t348 t376 t379 t382) = some r := by rw [if_pos rfl] at H; exact H
             clear H
             have H := H1
             clear H1
             have H' := Aside0.mk H
             clear H
             have hnb74 := NB352_361.out
             have hnc74 := NB361_352.out
             have hnb75 := NB352_384.out
             have hnc75 := NB384_352.out
             have hcz76_0 : wr.cell? ⟨gb352, 0, none⟩ = some (.slice Ao11 t342.length co11) := (blk_cell BK352.out 0).trans rfl
             have hcz76_1 : wr.cell? ⟨gb352, 1, none⟩ = some (.slice Ao13 t345.length co13) := (blk_cell BK352.out 1).trans rfl
             have hcz76_2 : wr.cell? ⟨gb352, 2, none⟩ = some (.int .i64 t348) := (blk_cell BK352.out 2).trans rfl
             have hfz76_0 := blk_frozen BK352.out 0
             have hfz76_1 := blk_frozen BK352.out 1
             have hfz76_2 := blk_frozen BK352.out 2
             have p391 : 0 ≤ (x16_4 : Int) := of_decide_eq_true qdk9_21
             have q391 : x16_4 < (t345.length : Int) := of_decide_eq_true qdk9_21
             obtain ⟨ad391, e391, hx391_0, hx391_1, hx391_2, hx391_3⟩ := at_T62 (Kd.R_reads' HO_353001.out).2.2 x16_4 p391 q391
             (try rw [← Nbq72.out] at hx391_3)
             (try rw [← Nbq72.out] at hw391_3)
             cases e391
             replace p391 := eq_true p391
             replace q391 := eq_true q391
             go_wp2_with (first | ((with_reducible refine gate_dst (N := 17) rfl ?_); (try (refine gate_guard (by rfl) ?_; dsimp only)); refine box_event ?hg (N := 17) ?hd (cs := #[.int .u64 0, .int .i64 0, .int .i64 0, .bool false]) (t := 62) ?hr ?_; (case hd => rfl); (case hg => rfl); (case hr => exact qdk9_24); intro gb392 hg w77 hbox hb; have n0_ := Aside0.mk (Kd.R_below (qdk9_1 HO_15) hb); have n1_ := Aside0.mk (Kd.R_below (qdk9_1 HO_353000) hb); have n2_ := Aside0.mk (Kd.R_below (Kd.R_elderB (qdk9_1 HO_353001) gb392 (Nat.le_of_eq hg.symm)) hb); have n3_ := Aside0.mk (Kd.R_below (qdk9_1 HO_362000) hb); have n4_ := Aside0.mk (Kd.R_below (Kd.R_elderB (qdk9_1 HO_362001) gb392 (Nat.le_of_eq hg.symm)) hb); have n5_ := Aside0.mk (Kd.R_below (qdk9_1 HO_385000) hb); have n6_ := Aside0.mk (Kd.R_below (Kd.R_elderB (qdk9_1 HO_385001) gb392 (Nat.le_of_eq hg.symm)) hb); have n7_ := Aside0.mk (blk_below (g := gb352) (o := .cells #[.slice Ao11 t342.length co11, .slice (some ad391) t345.length co13, .int .i64 t348] 25 (0, 0)) (qdk9_2 BK352) hb); have n8_ := Aside0.mk (blk_below (g := gb361) (o := .cells #[.slice Ao16 t353.length co16, .slice Ao19 t356.length co19, .int .i64 t359] 25 (0, 0)) (qdk9_2 BK361) hb); have n9_ := Aside0.mk (blk_below (g := gb384) (o := .cells #[.slice Ao54 t376.length co54, .slice Ao58 t379.length co58, .int .i64 t382] 25 (0, 0)) (qdk9_2 BK384) hb); have n10_ := Aside0.mk (below_step (qdk9_4 HB GE352 GE361 GE384) hb); have n11_ := Aside0.mk (hbox); have n12_ := Aside0.mk ((by rw [hg]; exact (below_size (qdk9_4 HB GE352 GE361 GE384)) : w.heap.size ≤ gb392)); have n13_ := Aside0.mk ((by rw [hg]; exact (below_size (qdk9_4 HB GE352 GE361 GE384)) : w.heap.size ≤ gb392)); have n14_ := Aside0.mk ((qnl_pdkx9 BK352 hg : gb352 ≠ gb392)); have n15_ := Aside0.mk ((qng_pdkx9 BK352 hg : gb392 ≠ gb352)); have n16_ := Aside0.mk ((qnl_pdkx9 BK361 hg : gb361 ≠ gb392)); have n17_ := Aside0.mk ((qng_pdkx9 BK361 hg : gb392 ≠ gb361)); have n18_ := Aside0.mk ((qnl_pdkx9 BK384 hg : gb384 ≠ gb392)); have n19_ := Aside0.mk ((qng_pdkx9 BK384 hg : gb392 ≠ gb384)); clear HO_15 HO_353000 HO_353001 HO_362000 HO_362001 HO_385000 HO_385001 BK352 BK361 BK384 HB; have HO_15 := n0_; have HO_353000 := n1_; have HO_353001 := n2_; have HO_362000 := n3_; have HO_362001 := n4_; have HO_385000 := n5_; have HO_385001 := n6_; have BK352 := n7_; have BK361 := n8_; have BK384 := n9_; have HB := n10_; have BK392 := n11_; have GW392 := n12_; have GE392 := n13_; have NB352_392 := n14_; have NB392_352 := n15_; have NB361_392 := n16_; have NB392_361 := n17_; have NB384_392 := n18_; have NB392_384 := n19_; clear n0_ n1_ n2_ n3_ n4_ n5_ n6_ n7_ n8_ n9_ n10_ n11_ n12_ n13_ n14_ n15_ n16_ n17_ n18_ n19_; clear hb hbox hg; have hnb78 := NB392_352.out; have hnc78 := NB352_392.out; have hnb79 := NB392_361.out; have hnc79 := NB361_392.out; have hnb80 := NB392_384.out; have hnc80 := NB384_392.out; have hcz81_0 : w77.cell? ⟨gb392, 0, none⟩ = some (.int .u64 0) := (blk_cell BK392.out 0).trans rfl; have hcz81_1 : w77.cell? ⟨gb392, 1, none⟩ = some (.int .i64 0) := (blk_cell BK392.out 1).trans rfl; have hcz81_2 : w77.cell? ⟨gb392, 2, none⟩ = some (.int .i64 0) := (blk_cell BK392.out 2).trans rfl; have hcz81_3 : w77.cell? ⟨gb392, 3, none⟩ = some (.bool false) := (blk_cell BK392.out 3).trans rfl; have hfz81_0 := blk_frozen BK392.out 0; have hfz81_1 := blk_frozen BK392.out 1; have hfz81_2 := blk_frozen BK392.out 2; have hfz81_3 := blk_frozen BK392.out 3))
             go_roundg k4
             case measure => have := HJ7.out; have := HJ35.out; have := HJ48.out; have := HK4.out; omega
             case rel => exact ⟨(x15_4), (wrap64 (x16_4 + 1)), qdk9_22, H', ⟨(by have := HJ7.out; have := HJ35.out; have := HJ48.out; have := HK4.out; omega)⟩, ⟨(rdk9_5 HO_15 BK392)⟩, ⟨(rdk9_5 HO_353000 BK392)⟩, ⟨(rdk9_9 HO_353001)⟩, ⟨(rdk9_5 HO_362000 BK392)⟩, ⟨(rdk9_9 HO_362001)⟩, ⟨(rdk9_5 HO_385000 BK392)⟩, ⟨(rdk9_9 HO_385001)⟩, ⟨(rdk9_3 NB352_392 BK352)⟩, ⟨(rdk9_3 NB361_392 BK361)⟩, ⟨(rdk9_3 NB384_392 BK384)⟩, ⟨(rdk9_14 HB GE352 GE361 GE384 GE392)⟩⟩
            replace c73 := Bool.eq_false_iff.mpr c73
            subst c73
            have H1 : (if ((rd_T62 t345 x16_4).f0) = t349 then (if (((rd_T62 t345 x16_4).f1) = t350) then (laws_FnDictKept.l0 k4 t349 t350 x15_4 (wrap64 (x16_4 + 1)) t342 t345 t348 t376 t379 t382) else ((some (([(rd_T62 t345 x16_4).f1, (rd_T62 t345 x16_4).f2] : List Int) : List Int)).bind fun y393 => (if x15_4.length + y393.length < 17592186044416 then (laws_FnDictKept.l0 k4 t349 t350 (x15_4 ++ y393) (wrap64 (x16_4 + 1)) t342 t345 t348 t376 t379 t382) else (none)))) else ((some (([(rd_T62 t345 x16_4).f1, (rd_T62 t345 x16_4).f2] : List Int) : List Int)).bind fun y399 => (if x15_4.length + y399.length < 17592186044416 then (laws_FnDictKept.l0 k4 t349 t350 (x15_4 ++ y399) (wrap64 (x16_4 + 1)) t342 t345 t348 t376 t379 t382) else (none)))) = some r := by rw [if_neg (show ¬ (false = true) by decide)] at H; exact H
            clear H
            have H := H1
            clear H1
            by_cases c82 : ((rd_T62 t345 x16_4).f0) = t349
            ·rw [if_pos c82] at H
             have c82b0 : (((rd_T62 t345 x16_4).f0) == t349) = true := beq_iff_eq.mpr c82
             have c82b1 : (((rd_T62 t345 x16_4).f0) != t349) = false := bne_eq_false_iff_eq.mpr c82
             clear c82
             by_cases c83 : (((rd_T62 t345 x16_4).f1) = t350)
             ·rw [if_pos c83] at H
              have c83b0 : (((rd_T62 t345 x16_4).f1) == t350) = true := beq_iff_eq.mpr c83
              have c83b1 : (((rd_T62 t345 x16_4).f1) != t350) = false := bne_eq_false_iff_eq.mpr c83
              clear c83
              have H' := Aside0.mk H
              clear H
              have hnb84 := NB352_361.out
              have hnc84 := NB361_352.out
              have hnb85 := NB352_384.out
              have hnc85 := NB384_352.out
              have hcz86_0 : wr.cell? ⟨gb352, 0, none⟩ = some (.slice Ao11 t342.length co11) := (blk_cell BK352.out 0).trans rfl
              have hcz86_1 : wr.cell? ⟨gb352, 1, none⟩ = some (.slice Ao13 t345.length co13) := (blk_cell BK352.out 1).trans rfl
              have hcz86_2 : wr.cell? ⟨gb352, 2, none⟩ = some (.int .i64 t348) := (blk_cell BK352.out 2).trans rfl
              have hfz86_0 := blk_frozen BK352.out 0
              have hfz86_1 := blk_frozen BK352.out 1
              have hfz86_2 := blk_frozen BK352.out 2
              have p391 : 0 ≤ (x16_4 : Int) := of_decide_eq_true qdk9_21
              have q391 : x16_4 < (t345.length : Int) := of_decide_eq_true qdk9_21
              obtain ⟨ad391, e391, hx391_0, hx391_1, hx391_2, hx391_3⟩ := at_T62 (Kd.R_reads' HO_353001.out).2.2 x16_4 p391 q391
              (try rw [← Nbq72.out] at hx391_3)
              (try rw [← Nbq72.out] at hw391_3)
              cases e391
              replace p391 := eq_true p391
              replace q391 := eq_true q391
              go_wp2_with (first | ((with_reducible refine gate_dst (N := 17) rfl ?_); (try (refine gate_guard (by rfl) ?_; dsimp only)); refine box_event ?hg (N := 17) ?hd (cs := #[.int .u64 0, .int .i64 0, .int .i64 0, .bool false]) (t := 62) ?hr ?_; (case hd => rfl); (case hg => rfl); (case hr => exact qdk9_24); intro gb392 hg w87 hbox hb; have n0_ := Aside0.mk (Kd.R_below (qdk9_1 HO_15) hb); have n1_ := Aside0.mk (Kd.R_below (qdk9_1 HO_353000) hb); have n2_ := Aside0.mk (Kd.R_below (Kd.R_elderB (qdk9_1 HO_353001) gb392 (Nat.le_of_eq hg.symm)) hb); have n3_ := Aside0.mk (Kd.R_below (qdk9_1 HO_362000) hb); have n4_ := Aside0.mk (Kd.R_below (Kd.R_elderB (qdk9_1 HO_362001) gb392 (Nat.le_of_eq hg.symm)) hb); have n5_ := Aside0.mk (Kd.R_below (qdk9_1 HO_385000) hb); have n6_ := Aside0.mk (Kd.R_below (Kd.R_elderB (qdk9_1 HO_385001) gb392 (Nat.le_of_eq hg.symm)) hb); have n7_ := Aside0.mk (blk_below (g := gb352) (o := .cells #[.slice Ao11 t342.length co11, .slice (some ad391) t345.length co13, .int .i64 t348] 25 (0, 0)) (qdk9_2 BK352) hb); have n8_ := Aside0.mk (blk_below (g := gb361) (o := .cells #[.slice Ao16 t353.length co16, .slice Ao19 t356.length co19, .int .i64 t359] 25 (0, 0)) (qdk9_2 BK361) hb); have n9_ := Aside0.mk (blk_below (g := gb384) (o := .cells #[.slice Ao54 t376.length co54, .slice Ao58 t379.length co58, .int .i64 t382] 25 (0, 0)) (qdk9_2 BK384) hb); have n10_ := Aside0.mk (below_step (qdk9_4 HB GE352 GE361 GE384) hb); have n11_ := Aside0.mk (hbox); have n12_ := Aside0.mk ((by rw [hg]; exact (below_size (qdk9_4 HB GE352 GE361 GE384)) : w.heap.size ≤ gb392)); have n13_ := Aside0.mk ((by rw [hg]; exact (below_size (qdk9_4 HB GE352 GE361 GE384)) : w.heap.size ≤ gb392)); have n14_ := Aside0.mk ((qnl_pdkx9 BK352 hg : gb352 ≠ gb392)); have n15_ := Aside0.mk ((qng_pdkx9 BK352 hg : gb392 ≠ gb352)); have n16_ := Aside0.mk ((qnl_pdkx9 BK361 hg : gb361 ≠ gb392)); have n17_ := Aside0.mk ((qng_pdkx9 BK361 hg : gb392 ≠ gb361)); have n18_ := Aside0.mk ((qnl_pdkx9 BK384 hg : gb384 ≠ gb392)); have n19_ := Aside0.mk ((qng_pdkx9 BK384 hg : gb392 ≠ gb384)); clear HO_15 HO_353000 HO_353001 HO_362000 HO_362001 HO_385000 HO_385001 BK352 BK361 BK384 HB; have HO_15 := n0_; have HO_353000 := n1_; have HO_353001 := n2_; have HO_362000 := n3_; have HO_362001 := n4_; have HO_385000 := n5_; have HO_385001 := n6_; have BK352 := n7_; have BK361 := n8_; have BK384 := n9_; have HB := n10_; have BK392 := n11_; have GW392 := n12_; have GE392 := n13_; have NB352_392 := n14_; have NB392_352 := n15_; have NB361_392 := n16_; have NB392_361 := n17_; have NB384_392 := n18_; have NB392_384 := n19_; clear n0_ n1_ n2_ n3_ n4_ n5_ n6_ n7_ n8_ n9_ n10_ n11_ n12_ n13_ n14_ n15_ n16_ n17_ n18_ n19_; clear hb hbox hg; have hnb88 := NB392_352.out; have hnc88 := NB352_392.out; have hnb89 := NB392_361.out; have hnc89 := NB361_392.out; have hnb90 := NB392_384.out; have hnc90 := NB384_392.out; have hcz91_0 : w87.cell? ⟨gb392, 0, none⟩ = some (.int .u64 0) := (blk_cell BK392.out 0).trans rfl; have hcz91_1 : w87.cell? ⟨gb392, 1, none⟩ = some (.int .i64 0) := (blk_cell BK392.out 1).trans rfl; have hcz91_2 : w87.cell? ⟨gb392, 2, none⟩ = some (.int .i64 0) := (blk_cell BK392.out 2).trans rfl; have hcz91_3 : w87.cell? ⟨gb392, 3, none⟩ = some (.bool false) := (blk_cell BK392.out 3).trans rfl; have hfz91_0 := blk_frozen BK392.out 0; have hfz91_1 := blk_frozen BK392.out 1; have hfz91_2 := blk_frozen BK392.out 2; have hfz91_3 := blk_frozen BK392.out 3))
              go_roundg k4
              case measure => have := HJ7.out; have := HJ35.out; have := HJ48.out; have := HK4.out; omega
              case rel => exact ⟨(x15_4), (wrap64 (x16_4 + 1)), qdk9_22, H', ⟨(by have := HJ7.out; have := HJ35.out; have := HJ48.out; have := HK4.out; omega)⟩, ⟨(rdk9_4 HO_15 BK392)⟩, ⟨(rdk9_4 HO_353000 BK392)⟩, ⟨(rdk9_8 HO_353001)⟩, ⟨(rdk9_4 HO_362000 BK392)⟩, ⟨(rdk9_8 HO_362001)⟩, ⟨(rdk9_4 HO_385000 BK392)⟩, ⟨(rdk9_8 HO_385001)⟩, ⟨(rdk9_3 NB352_392 BK352)⟩, ⟨(rdk9_3 NB361_392 BK361)⟩, ⟨(rdk9_3 NB384_392 BK384)⟩, ⟨(rdk9_14 HB GE352 GE361 GE384 GE392)⟩⟩
             rw [if_neg c83] at H
             have c83b0 : (((rd_T62 t345 x16_4).f1) == t350) = false := beq_eq_false_iff_ne.mpr c83
             have c83b1 : (((rd_T62 t345 x16_4).f1) != t350) = true := bne_iff_ne.mpr c83
             obtain ⟨y393, hy393⟩ : ∃ y_ : List Int, y_ = (([(rd_T62 t345 x16_4).f1, (rd_T62 t345 x16_4).f2] : List Int)) := ⟨_, rfl⟩
             replace H : (if x15_4.length + y393.length < 17592186044416 then (laws_FnDictKept.l0 k4 t349 t350 (x15_4 ++ y393) (wrap64 (x16_4 + 1)) t342 t345 t348 t376 t379 t382) else (none)) = some r := by first | (rw [hy393]; with_reducible exact H) | (have H2_ := (Option.bind_some _ _).symm.trans H; rw [hy393]; with_reducible exact H2_) | (have H2_ := (Option.bind_some _ _).symm.trans H; with_reducible exact H2_) | with_reducible exact H | (rw [hy393]; exact H) | exact H
             have Ny393 := Aside0.mk hy393
             clear hy393
             by_cases c92 : x15_4.length + y393.length < 17592186044416
             ·rw [if_pos c92] at H
              have LMc92 := Aside0.mk c92
              clear c92
              obtain ⟨y396, hy396⟩ : ∃ y_ : List Int, y_ = (x15_4 ++ y393) := ⟨_, rfl⟩
              replace H : (laws_FnDictKept.l0 k4 t349 t350 y396 (wrap64 (x16_4 + 1)) t342 t345 t348 t376 t379 t382) = some r := by first | (rw [hy396]; with_reducible exact H) | (have H2_ := (Option.bind_some _ _).symm.trans H; rw [hy396]; with_reducible exact H2_) | (have H2_ := (Option.bind_some _ _).symm.trans H; with_reducible exact H2_) | with_reducible exact H | (rw [hy396]; exact H) | exact H
              have Ny396 := Aside0.mk hy396
              clear hy396
              have H' := Aside0.mk H
              clear H
              have hnb93 := NB352_361.out
              have hnc93 := NB361_352.out
              have hnb94 := NB352_384.out
              have hnc94 := NB384_352.out
              have hcz95_0 : wr.cell? ⟨gb352, 0, none⟩ = some (.slice Ao11 t342.length co11) := (blk_cell BK352.out 0).trans rfl
              have hcz95_1 : wr.cell? ⟨gb352, 1, none⟩ = some (.slice Ao13 t345.length co13) := (blk_cell BK352.out 1).trans rfl
              have hcz95_2 : wr.cell? ⟨gb352, 2, none⟩ = some (.int .i64 t348) := (blk_cell BK352.out 2).trans rfl
              have hfz95_0 := blk_frozen BK352.out 0
              have hfz95_1 := blk_frozen BK352.out 1
              have hfz95_2 := blk_frozen BK352.out 2
              have p391 : 0 ≤ (x16_4 : Int) := of_decide_eq_true qdk9_21
              have q391 : x16_4 < (t345.length : Int) := of_decide_eq_true qdk9_21
              obtain ⟨ad391, e391, hx391_0, hx391_1, hx391_2, hx391_3⟩ := at_T62 (Kd.R_reads' HO_353001.out).2.2 x16_4 p391 q391
              (try rw [← Nbq72.out] at hx391_3)
              (try rw [← Nbq72.out] at hw391_3)
              cases e391
              replace p391 := eq_true p391
              replace q391 := eq_true q391
              go_wp2_with (first | ((with_reducible refine gate_dst (N := 17) rfl ?_); (try (refine gate_guard (by rfl) ?_; dsimp only)); refine box_event ?hg (N := 17) ?hd (cs := #[.int .u64 0, .int .i64 0, .int .i64 0, .bool false]) (t := 62) ?hr ?_; (case hd => rfl); (case hg => rfl); (case hr => exact qdk9_24); intro gb392 hg w96 hbox hb; have n0_ := Aside0.mk (Kd.R_below (qdk9_1 HO_15) hb); have n1_ := Aside0.mk (Kd.R_below (qdk9_1 HO_353000) hb); have n2_ := Aside0.mk (Kd.R_below (Kd.R_elderB (qdk9_1 HO_353001) gb392 (Nat.le_of_eq hg.symm)) hb); have n3_ := Aside0.mk (Kd.R_below (qdk9_1 HO_362000) hb); have n4_ := Aside0.mk (Kd.R_below (Kd.R_elderB (qdk9_1 HO_362001) gb392 (Nat.le_of_eq hg.symm)) hb); have n5_ := Aside0.mk (Kd.R_below (qdk9_1 HO_385000) hb); have n6_ := Aside0.mk (Kd.R_below (Kd.R_elderB (qdk9_1 HO_385001) gb392 (Nat.le_of_eq hg.symm)) hb); have n7_ := Aside0.mk (blk_below (g := gb352) (o := .cells #[.slice Ao11 t342.length co11, .slice (some ad391) t345.length co13, .int .i64 t348] 25 (0, 0)) (qdk9_2 BK352) hb); have n8_ := Aside0.mk (blk_below (g := gb361) (o := .cells #[.slice Ao16 t353.length co16, .slice Ao19 t356.length co19, .int .i64 t359] 25 (0, 0)) (qdk9_2 BK361) hb); have n9_ := Aside0.mk (blk_below (g := gb384) (o := .cells #[.slice Ao54 t376.length co54, .slice Ao58 t379.length co58, .int .i64 t382] 25 (0, 0)) (qdk9_2 BK384) hb); have n10_ := Aside0.mk (below_step (qdk9_4 HB GE352 GE361 GE384) hb); have n11_ := Aside0.mk (hbox); have n12_ := Aside0.mk ((by rw [hg]; exact (below_size (qdk9_4 HB GE352 GE361 GE384)) : w.heap.size ≤ gb392)); have n13_ := Aside0.mk ((by rw [hg]; exact (below_size (qdk9_4 HB GE352 GE361 GE384)) : w.heap.size ≤ gb392)); have n14_ := Aside0.mk ((qnl_pdkx9 BK352 hg : gb352 ≠ gb392)); have n15_ := Aside0.mk ((qng_pdkx9 BK352 hg : gb392 ≠ gb352)); have n16_ := Aside0.mk ((qnl_pdkx9 BK361 hg : gb361 ≠ gb392)); have n17_ := Aside0.mk ((qng_pdkx9 BK361 hg : gb392 ≠ gb361)); have n18_ := Aside0.mk ((qnl_pdkx9 BK384 hg : gb384 ≠ gb392)); have n19_ := Aside0.mk ((qng_pdkx9 BK384 hg : gb392 ≠ gb384)); clear HO_15 HO_353000 HO_353001 HO_362000 HO_362001 HO_385000 HO_385001 BK352 BK361 BK384 HB; have HO_15 := n0_; have HO_353000 := n1_; have HO_353001 := n2_; have HO_362000 := n3_; have HO_362001 := n4_; have HO_385000 := n5_; have HO_385001 := n6_; have BK352 := n7_; have BK361 := n8_; have BK384 := n9_; have HB := n10_; have BK392 := n11_; have GW392 := n12_; have GE392 := n13_; have NB352_392 := n14_; have NB392_352 := n15_; have NB361_392 := n16_; have NB392_361 := n17_; have NB384_392 := n18_; have NB392_384 := n19_; clear n0_ n1_ n2_ n3_ n4_ n5_ n6_ n7_ n8_ n9_ n10_ n11_ n12_ n13_ n14_ n15_ n16_ n17_ n18_ n19_; clear hb hbox hg; have hnb97 := NB392_352.out; have hnc97 := NB352_392.out; have hnb98 := NB392_361.out; have hnc98 := NB361_392.out; have hnb99 := NB392_384.out; have hnc99 := NB384_392.out; have hcz100_0 : w96.cell? ⟨gb392, 0, none⟩ = some (.int .u64 0) := (blk_cell BK392.out 0).trans rfl; have hcz100_1 : w96.cell? ⟨gb392, 1, none⟩ = some (.int .i64 0) := (blk_cell BK392.out 1).trans rfl; have hcz100_2 : w96.cell? ⟨gb392, 2, none⟩ = some (.int .i64 0) := (blk_cell BK392.out 2).trans rfl; have hcz100_3 : w96.cell? ⟨gb392, 3, none⟩ = some (.bool false) := (blk_cell BK392.out 3).trans rfl; have hfz100_0 := blk_frozen BK392.out 0; have hfz100_1 := blk_frozen BK392.out 1; have hfz100_2 := blk_frozen BK392.out 2; have hfz100_3 := blk_frozen BK392.out 3) | ((with_reducible refine gate_dst (N := 146) rfl ?_); (try (refine gate_guard (by rfl) ?_; dsimp only)); refine Kd.R_lit (Kd.int .i64) _ 2 ?hg (N := 146) ?hd (xs := ([(rd_T62 t345 x16_4).f1, (rd_T62 t345 x16_4).f2] : List Int)) (inner := [.int .i64 ((rd_T62 t345 x16_4).f1), .int .i64 ((rd_T62 t345 x16_4).f2)]) (ok := fun _ => True) (okp := fun _ => True) ?hr ?hp (fun _ hk => hk) trivial (Below.refl _ _) (Nat.le_refl _) (by simp) ?_; (case hd => rfl); (case hg => rfl); (case hr => exact qdk9_24); (case hp => exact (Reps.one (show Kd.M (Kd.int .i64) _ _ _ ((rd_T62 t345 x16_4).f1) [.int .i64 ((rd_T62 t345 x16_4).f1)] from rfl) (Reps.one (show Kd.M (Kd.int .i64) _ _ _ ((rd_T62 t345 x16_4).f2) [.int .i64 ((rd_T62 t345 x16_4).f2)] from rfl) (Reps.none _ _)))); intro v394 w101 ho102 hb hg_ hnew_; clear hg_ hnew_; (first | rw [← Ny393.out] at ho102 | (simp only [Int.reduceToNat] at ho102; rw [← Ny393.out] at ho102)); have n0_ := Aside0.mk (Kd.R_elder' (qdk9_3 HO_15 BK392) (Kd.R_base ho102) hb); have n1_ := Aside0.mk (Kd.R_elder' (qdk9_3 HO_353000 BK392) (Kd.R_base ho102) hb); have n2_ := Aside0.mk (Kd.R_below (qdk9_7 HO_353001) hb); have n3_ := Aside0.mk (Kd.R_elder' (qdk9_3 HO_362000 BK392) (Kd.R_base ho102) hb); have n4_ := Aside0.mk (Kd.R_below (qdk9_7 HO_362001) hb); have n5_ := Aside0.mk (Kd.R_elder' (qdk9_3 HO_385000 BK392) (Kd.R_base ho102) hb); have n6_ := Aside0.mk (Kd.R_below (qdk9_7 HO_385001) hb); have n7_ := Aside0.mk (Kd.R_lower (Kd.R_new' (Kd.R_new' (Kd.R_new' (Kd.R_new' ho102 (Kd.R_lt (qdk9_3 HO_15 BK392))) (Kd.R_lt (qdk9_3 HO_353000 BK392))) (Kd.R_lt (qdk9_3 HO_362000 BK392))) (Kd.R_lt (qdk9_3 HO_385000 BK392))) (below_size (qdk9_17 HB GE352 GE361 GE384 GE392))); have n8_ := Aside0.mk (blk_below (g := gb352) (o := .cells #[.slice Ao11 t342.length co11, .slice (some ad391) t345.length co13, .int .i64 t348] 25 (0, 0)) (qdk9_5 NB352_392 BK352) hb); have n9_ := Aside0.mk (blk_below (g := gb361) (o := .cells #[.slice Ao16 t353.length co16, .slice Ao19 t356.length co19, .int .i64 t359] 25 (0, 0)) (qdk9_5 NB361_392 BK361) hb); have n10_ := Aside0.mk (blk_below (g := gb384) (o := .cells #[.slice Ao54 t376.length co54, .slice Ao58 t379.length co58, .int .i64 t382] 25 (0, 0)) (qdk9_5 NB384_392 BK384) hb); have n11_ := Aside0.mk (blk_below (g := gb392) (o := .cells #[.int .u64 ((rd_T62 t345 x16_4).f0), .int .i64 ((rd_T62 t345 x16_4).f1), .int .i64 ((rd_T62 t345 x16_4).f2), .bool false] 62 (0, 0)) (qdk9_19 BK392) hb); have n12_ := Aside0.mk (below_step (qdk9_17 HB GE352 GE361 GE384 GE392) hb); clear HO_15 HO_353000 HO_353001 HO_362000 HO_362001 HO_385000 HO_385001 BK352 BK361 BK384 BK392 HB; have HO_15 := n0_; have HO_353000 := n1_; have HO_353001 := n2_; have HO_362000 := n3_; have HO_362001 := n4_; have HO_385000 := n5_; have HO_385001 := n6_; have HO395 := n7_; have BK352 := n8_; have BK361 := n9_; have BK384 := n10_; have BK392 := n11_; have HB := n12_; clear n0_ n1_ n2_ n3_ n4_ n5_ n6_ n7_ n8_ n9_ n10_ n11_ n12_; clear hb ho102; obtain ⟨Ao104, co104, eo104⟩ := Kd.R_slice HO395.out; subst eo104) | ((with_reducible refine gate_builtin (b := .append) (xs := #[.tmp 141, .tmp 146]) rfl ?_); (try (refine gate_guard (by rfl) ?_; dsimp only)); at_builtin; refine Kd.R_append_rows (Kd.int .i64) (w0 := w) w.heap.size rfl (.tmp 141) (.tmp 146) 22 2 (.int .i64 0) 8 rfl Try.underlying22 info2 rfl (by decide) (by omega) u15 x15_4 y393 _ _ _ (fun k_ => some k_ ≠ (.slice Ao11 t342.length co11 : Value).ownBlock ∧ some k_ ≠ (.slice Ao16 t353.length co16 : Value).ownBlock ∧ some k_ ≠ (.slice Ao54 t376.length co54 : Value).ownBlock ∧ some k_ ≠ (.slice Ao104 y393.length co104 : Value).ownBlock) (fun _ => False) rfl rfl ?aO ?aR (fun _ _ h => h) (fun _ h => h.elim) ?aF ?aB ?aS ?aL ?_; (case aR => repeat (first | exact (Kd.R_reads' HO395.out).2.2 | (with_reducible refine Kd.C_alloc ?_ _) | (with_reducible refine Kd.C_drewN ?_ _) | (with_reducible refine Kd.C_drew ?_))); (case aB => exact (qdk9_17 HB GE352 GE361 GE384 GE392)); (case aF => exact (fun k_ hk => ⟨Kd.fresh' (Kd.R_lt (qdk9_1 HO_353000)) k_ hk, Kd.fresh' (Kd.R_lt (qdk9_1 HO_362000)) k_ hk, Kd.fresh' (Kd.R_lt (qdk9_1 HO_385000)) k_ hk, Kd.fresh' (Kd.R_lt (qdk9_1 HO395)) k_ hk⟩)); (case aO => exact (by (with_reducible repeat (first | apply Kd.R_alloc | apply Kd.R_drewN | apply Kd.R_drew)); exact Kd.R_mono HO_15.out (fun _ hk => ⟨hk.1.1, ⟨hk.1.2.1, ⟨hk.1.2.2, hk.2⟩⟩⟩))); (case aS => exact (below_size (qdk9_17 HB GE352 GE361 GE384 GE392))); (case aL => have := LMc92.out; omega); intro v397 w103 ho hb hg hat; rw [← Ny396.out] at ho; have n0_ := Aside0.mk (Kd.R_after (ok := (fun k_ => some k_ ≠ (.slice Ao16 t353.length co16 : Value).ownBlock ∧ some k_ ≠ (.slice Ao54 t376.length co54 : Value).ownBlock ∧ some k_ ≠ (.slice Ao104 y393.length co104 : Value).ownBlock)) (qdk9_20 HO_353000) hg hat); have n1_ := Aside0.mk (Kd.R_over' (qdk9_1 HO_353001) (Kd.R_typed (qdk9_1 HO_15)) (by decide) hg); have n2_ := Aside0.mk (Kd.R_after (ok := (fun k_ => some k_ ≠ (.slice Ao11 t342.length co11 : Value).ownBlock ∧ some k_ ≠ (.slice Ao54 t376.length co54 : Value).ownBlock ∧ some k_ ≠ (.slice Ao104 y393.length co104 : Value).ownBlock)) (qdk9_20 HO_362000) hg hat); have n3_ := Aside0.mk (Kd.R_over' (qdk9_1 HO_362001) (Kd.R_typed (qdk9_1 HO_15)) (by decide) hg); have n4_ := Aside0.mk (Kd.R_after (ok := (fun k_ => some k_ ≠ (.slice Ao11 t342.length co11 : Value).ownBlock ∧ some k_ ≠ (.slice Ao16 t353.length co16 : Value).ownBlock ∧ some k_ ≠ (.slice Ao104 y393.length co104 : Value).ownBlock)) (qdk9_20 HO_385000) hg hat); have n5_ := Aside0.mk (Kd.R_over' (qdk9_1 HO_385001) (Kd.R_typed (qdk9_1 HO_15)) (by decide) hg); have n6_ := Aside0.mk (blk_grown (g := gb352) (o := .cells #[.slice Ao11 t342.length co11, .slice (some ad391) t345.length co13, .int .i64 t348] 25 (0, 0)) (qdk9_2 BK352) hg (Kd.R_ne HO_15.out BK352.out (by decide))); have n7_ := Aside0.mk (blk_grown (g := gb361) (o := .cells #[.slice Ao16 t353.length co16, .slice Ao19 t356.length co19, .int .i64 t359] 25 (0, 0)) (qdk9_2 BK361) hg (Kd.R_ne HO_15.out BK361.out (by decide))); have n8_ := Aside0.mk (blk_grown (g := gb384) (o := .cells #[.slice Ao54 t376.length co54, .slice Ao58 t379.length co58, .int .i64 t382] 25 (0, 0)) (qdk9_2 BK384) hg (Kd.R_ne HO_15.out BK384.out (by decide))); have n9_ := Aside0.mk (blk_grown (g := gb392) (o := .cells #[.int .u64 ((rd_T62 t345 x16_4).f0), .int .i64 ((rd_T62 t345 x16_4).f1), .int .i64 ((rd_T62 t345 x16_4).f2), .bool false] 62 (0, 0)) (qdk9_2 BK392) hg (Kd.R_ne HO_15.out BK392.out (by decide))); have n10_ := Aside0.mk (Kd.R_after (ok := (fun k_ => some k_ ≠ (.slice Ao11 t342.length co11 : Value).ownBlock ∧ some k_ ≠ (.slice Ao16 t353.length co16 : Value).ownBlock ∧ some k_ ≠ (.slice Ao54 t376.length co54 : Value).ownBlock)) (by (with_reducible repeat (first | apply Kd.R_alloc | apply Kd.R_drewN | apply Kd.R_drew)); exact Kd.R_mono HO395.out (fun _ hk => ⟨⟨hk.1.1.2, ⟨hk.1.2, hk.2⟩⟩, hk.1.1.1.2⟩)) hg hat); have n11_ := Aside0.mk (hb); have n12_ := Aside0.mk (ho); clear HO_353000 HO_353001 HO_362000 HO_362001 HO_385000 HO_385001 BK352 BK361 BK384 BK392 HO395 HB HO_15; have HO_353000 := n0_; have HO_353001 := n1_; have HO_362000 := n2_; have HO_362001 := n3_; have HO_385000 := n4_; have HO_385001 := n5_; have BK352 := n6_; have BK361 := n7_; have BK384 := n8_; have BK392 := n9_; have HO395 := n10_; have HB := n11_; have HO398 := n12_; clear n0_ n1_ n2_ n3_ n4_ n5_ n6_ n7_ n8_ n9_ n10_ n11_ n12_; clear ho hb hg hat))
              go_roundg k4
              case measure => have := HJ7.out; have := HJ35.out; have := HJ48.out; have := HK4.out; omega
              case rel => exact ⟨(y396), (wrap64 (x16_4 + 1)), qdk9_22, H', ⟨(by have := HJ7.out; have := HJ35.out; have := HJ48.out; have := HK4.out; omega)⟩, ⟨(by (with_reducible repeat (first | apply Kd.R_alloc | apply Kd.R_drewN | apply Kd.R_drew)); exact Kd.R_mono HO398.out (fun _ hk => ⟨hk.1, ⟨hk.2.1, hk.2.2.1⟩⟩))⟩, ⟨(rdk9_11 HO_353000)⟩, ⟨(rdk9_12 HO_353001)⟩, ⟨(rdk9_11 HO_362000)⟩, ⟨(rdk9_12 HO_362001)⟩, ⟨(rdk9_11 HO_385000)⟩, ⟨(rdk9_12 HO_385001)⟩, ⟨(rdk9_1 BK352)⟩, ⟨(rdk9_1 BK361)⟩, ⟨(rdk9_1 BK384)⟩, ⟨(rdk9_14 HB GE352 GE361 GE384 GE392)⟩⟩
             rw [if_neg c92] at H
             exact absurd H (by simp)
            rw [if_neg c82] at H
            have c82b0 : (((rd_T62 t345 x16_4).f0) == t349) = false := beq_eq_false_iff_ne.mpr c82
            have c82b1 : (((rd_T62 t345 x16_4).f0) != t349) = true := bne_iff_ne.mpr c82
            obtain ⟨y399, hy399⟩ : ∃ y_ : List Int, y_ = (([(rd_T62 t345 x16_4).f1, (rd_T62 t345 x16_4).f2] : List Int)) := ⟨_, rfl⟩
            replace H : (if x15_4.length + y399.length < 17592186044416 then (laws_FnDictKept.l0 k4 t349 t350 (x15_4 ++ y399) (wrap64 (x16_4 + 1)) t342 t345 t348 t376 t379 t382) else (none)) = some r := by first | (rw [hy399]; with_reducible exact H) | (have H2_ := (Option.bind_some _ _).symm.trans H; rw [hy399]; with_reducible exact H2_) | (have H2_ := (Option.bind_some _ _).symm.trans H; with_reducible exact H2_) | with_reducible exact H | (rw [hy399]; exact H) | exact H
            have Ny399 := Aside0.mk hy399
            clear hy399
            by_cases c105 : x15_4.length + y399.length < 17592186044416
            ·rw [if_pos c105] at H
             have LMc105 := Aside0.mk c105
             clear c105
             obtain ⟨y402, hy402⟩ : ∃ y_ : List Int, y_ = (x15_4 ++ y399) := ⟨_, rfl⟩
             replace H : (laws_FnDictKept.l0 k4 t349 t350 y402 (wrap64 (x16_4 + 1)) t342 t345 t348 t376 t379 t382) = some r := by first | (rw [hy402]; with_reducible exact H) | (have H2_ := (Option.bind_some _ _).symm.trans H; rw [hy402]; with_reducible exact H2_) | (have H2_ := (Option.bind_some _ _).symm.trans H; with_reducible exact H2_) | with_reducible exact H | (rw [hy402]; exact H) | exact H
             have Ny402 := Aside0.mk hy402
             clear hy402
             have H' := Aside0.mk H
             clear H
             have hnb106 := NB352_361.out
             have hnc106 := NB361_352.out
             have hnb107 := NB352_384.out
             have hnc107 := NB384_352.out
             have hcz108_0 : wr.cell? ⟨gb352, 0, none⟩ = some (.slice Ao11 t342.length co11) := (blk_cell BK352.out 0).trans rfl
             have hcz108_1 : wr.cell? ⟨gb352, 1, none⟩ = some (.slice Ao13 t345.length co13) := (blk_cell BK352.out 1).trans rfl
             have hcz108_2 : wr.cell? ⟨gb352, 2, none⟩ = some (.int .i64 t348) := (blk_cell BK352.out 2).trans rfl
             have hfz108_0 := blk_frozen BK352.out 0
             have hfz108_1 := blk_frozen BK352.out 1
             have hfz108_2 := blk_frozen BK352.out 2
             have p391 : 0 ≤ (x16_4 : Int) := of_decide_eq_true qdk9_21
             have q391 : x16_4 < (t345.length : Int) := of_decide_eq_true qdk9_21
             obtain ⟨ad391, e391, hx391_0, hx391_1, hx391_2, hx391_3⟩ := at_T62 (Kd.R_reads' HO_353001.out).2.2 x16_4 p391 q391
             (try rw [← Nbq72.out] at hx391_3)
             (try rw [← Nbq72.out] at hw391_3)
             cases e391
             replace p391 := eq_true p391
             replace q391 := eq_true q391
             go_wp2_with (first | ((with_reducible refine gate_dst (N := 17) rfl ?_); (try (refine gate_guard (by rfl) ?_; dsimp only)); refine box_event ?hg (N := 17) ?hd (cs := #[.int .u64 0, .int .i64 0, .int .i64 0, .bool false]) (t := 62) ?hr ?_; (case hd => rfl); (case hg => rfl); (case hr => exact qdk9_24); intro gb392 hg w109 hbox hb; have n0_ := Aside0.mk (Kd.R_below (qdk9_1 HO_15) hb); have n1_ := Aside0.mk (Kd.R_below (qdk9_1 HO_353000) hb); have n2_ := Aside0.mk (Kd.R_below (Kd.R_elderB (qdk9_1 HO_353001) gb392 (Nat.le_of_eq hg.symm)) hb); have n3_ := Aside0.mk (Kd.R_below (qdk9_1 HO_362000) hb); have n4_ := Aside0.mk (Kd.R_below (Kd.R_elderB (qdk9_1 HO_362001) gb392 (Nat.le_of_eq hg.symm)) hb); have n5_ := Aside0.mk (Kd.R_below (qdk9_1 HO_385000) hb); have n6_ := Aside0.mk (Kd.R_below (Kd.R_elderB (qdk9_1 HO_385001) gb392 (Nat.le_of_eq hg.symm)) hb); have n7_ := Aside0.mk (blk_below (g := gb352) (o := .cells #[.slice Ao11 t342.length co11, .slice (some ad391) t345.length co13, .int .i64 t348] 25 (0, 0)) (qdk9_2 BK352) hb); have n8_ := Aside0.mk (blk_below (g := gb361) (o := .cells #[.slice Ao16 t353.length co16, .slice Ao19 t356.length co19, .int .i64 t359] 25 (0, 0)) (qdk9_2 BK361) hb); have n9_ := Aside0.mk (blk_below (g := gb384) (o := .cells #[.slice Ao54 t376.length co54, .slice Ao58 t379.length co58, .int .i64 t382] 25 (0, 0)) (qdk9_2 BK384) hb); have n10_ := Aside0.mk (below_step (qdk9_4 HB GE352 GE361 GE384) hb); have n11_ := Aside0.mk (hbox); have n12_ := Aside0.mk ((by rw [hg]; exact (below_size (qdk9_4 HB GE352 GE361 GE384)) : w.heap.size ≤ gb392)); have n13_ := Aside0.mk ((by rw [hg]; exact (below_size (qdk9_4 HB GE352 GE361 GE384)) : w.heap.size ≤ gb392)); have n14_ := Aside0.mk ((qnl_pdkx9 BK352 hg : gb352 ≠ gb392)); have n15_ := Aside0.mk ((qng_pdkx9 BK352 hg : gb392 ≠ gb352)); have n16_ := Aside0.mk ((qnl_pdkx9 BK361 hg : gb361 ≠ gb392)); have n17_ := Aside0.mk ((qng_pdkx9 BK361 hg : gb392 ≠ gb361)); have n18_ := Aside0.mk ((qnl_pdkx9 BK384 hg : gb384 ≠ gb392)); have n19_ := Aside0.mk ((qng_pdkx9 BK384 hg : gb392 ≠ gb384)); clear HO_15 HO_353000 HO_353001 HO_362000 HO_362001 HO_385000 HO_385001 BK352 BK361 BK384 HB; have HO_15 := n0_; have HO_353000 := n1_; have HO_353001 := n2_; have HO_362000 := n3_; have HO_362001 := n4_; have HO_385000 := n5_; have HO_385001 := n6_; have BK352 := n7_; have BK361 := n8_; have BK384 := n9_; have HB := n10_; have BK392 := n11_; have GW392 := n12_; have GE392 := n13_; have NB352_392 := n14_; have NB392_352 := n15_; have NB361_392 := n16_; have NB392_361 := n17_; have NB384_392 := n18_; have NB392_384 := n19_; clear n0_ n1_ n2_ n3_ n4_ n5_ n6_ n7_ n8_ n9_ n10_ n11_ n12_ n13_ n14_ n15_ n16_ n17_ n18_ n19_; clear hb hbox hg; have hnb110 := NB392_352.out; have hnc110 := NB352_392.out; have hnb111 := NB392_361.out; have hnc111 := NB361_392.out; have hnb112 := NB392_384.out; have hnc112 := NB384_392.out; have hcz113_0 : w109.cell? ⟨gb392, 0, none⟩ = some (.int .u64 0) := (blk_cell BK392.out 0).trans rfl; have hcz113_1 : w109.cell? ⟨gb392, 1, none⟩ = some (.int .i64 0) := (blk_cell BK392.out 1).trans rfl; have hcz113_2 : w109.cell? ⟨gb392, 2, none⟩ = some (.int .i64 0) := (blk_cell BK392.out 2).trans rfl; have hcz113_3 : w109.cell? ⟨gb392, 3, none⟩ = some (.bool false) := (blk_cell BK392.out 3).trans rfl; have hfz113_0 := blk_frozen BK392.out 0; have hfz113_1 := blk_frozen BK392.out 1; have hfz113_2 := blk_frozen BK392.out 2; have hfz113_3 := blk_frozen BK392.out 3) | ((with_reducible refine gate_dst (N := 146) rfl ?_); (try (refine gate_guard (by rfl) ?_; dsimp only)); refine Kd.R_lit (Kd.int .i64) _ 2 ?hg (N := 146) ?hd (xs := ([(rd_T62 t345 x16_4).f1, (rd_T62 t345 x16_4).f2] : List Int)) (inner := [.int .i64 ((rd_T62 t345 x16_4).f1), .int .i64 ((rd_T62 t345 x16_4).f2)]) (ok := fun _ => True) (okp := fun _ => True) ?hr ?hp (fun _ hk => hk) trivial (Below.refl _ _) (Nat.le_refl _) (by simp) ?_; (case hd => rfl); (case hg => rfl); (case hr => exact qdk9_24); (case hp => exact (Reps.one (show Kd.M (Kd.int .i64) _ _ _ ((rd_T62 t345 x16_4).f1) [.int .i64 ((rd_T62 t345 x16_4).f1)] from rfl) (Reps.one (show Kd.M (Kd.int .i64) _ _ _ ((rd_T62 t345 x16_4).f2) [.int .i64 ((rd_T62 t345 x16_4).f2)] from rfl) (Reps.none _ _)))); intro v400 w114 ho115 hb hg_ hnew_; clear hg_ hnew_; (first | rw [← Ny399.out] at ho115 | (simp only [Int.reduceToNat] at ho115; rw [← Ny399.out] at ho115)); have n0_ := Aside0.mk (Kd.R_elder' (qdk9_3 HO_15 BK392) (Kd.R_base ho115) hb); have n1_ := Aside0.mk (Kd.R_elder' (qdk9_3 HO_353000 BK392) (Kd.R_base ho115) hb); have n2_ := Aside0.mk (Kd.R_below (qdk9_7 HO_353001) hb); have n3_ := Aside0.mk (Kd.R_elder' (qdk9_3 HO_362000 BK392) (Kd.R_base ho115) hb); have n4_ := Aside0.mk (Kd.R_below (qdk9_7 HO_362001) hb); have n5_ := Aside0.mk (Kd.R_elder' (qdk9_3 HO_385000 BK392) (Kd.R_base ho115) hb); have n6_ := Aside0.mk (Kd.R_below (qdk9_7 HO_385001) hb); have n7_ := Aside0.mk (Kd.R_lower (Kd.R_new' (Kd.R_new' (Kd.R_new' (Kd.R_new' ho115 (Kd.R_lt (qdk9_3 HO_15 BK392))) (Kd.R_lt (qdk9_3 HO_353000 BK392))) (Kd.R_lt (qdk9_3 HO_362000 BK392))) (Kd.R_lt (qdk9_3 HO_385000 BK392))) (below_size (qdk9_17 HB GE352 GE361 GE384 GE392))); have n8_ := Aside0.mk (blk_below (g := gb352) (o := .cells #[.slice Ao11 t342.length co11, .slice (some ad391) t345.length co13, .int .i64 t348] 25 (0, 0)) (qdk9_5 NB352_392 BK352) hb); have n9_ := Aside0.mk (blk_below (g := gb361) (o := .cells #[.slice Ao16 t353.length co16, .slice Ao19 t356.length co19, .int .i64 t359] 25 (0, 0)) (qdk9_5 NB361_392 BK361) hb); have n10_ := Aside0.mk (blk_below (g := gb384) (o := .cells #[.slice Ao54 t376.length co54, .slice Ao58 t379.length co58, .int .i64 t382] 25 (0, 0)) (qdk9_5 NB384_392 BK384) hb); have n11_ := Aside0.mk (blk_below (g := gb392) (o := .cells #[.int .u64 ((rd_T62 t345 x16_4).f0), .int .i64 ((rd_T62 t345 x16_4).f1), .int .i64 ((rd_T62 t345 x16_4).f2), .bool false] 62 (0, 0)) (qdk9_19 BK392) hb); have n12_ := Aside0.mk (below_step (qdk9_17 HB GE352 GE361 GE384 GE392) hb); clear HO_15 HO_353000 HO_353001 HO_362000 HO_362001 HO_385000 HO_385001 BK352 BK361 BK384 BK392 HB; have HO_15 := n0_; have HO_353000 := n1_; have HO_353001 := n2_; have HO_362000 := n3_; have HO_362001 := n4_; have HO_385000 := n5_; have HO_385001 := n6_; have HO401 := n7_; have BK352 := n8_; have BK361 := n9_; have BK384 := n10_; have BK392 := n11_; have HB := n12_; clear n0_ n1_ n2_ n3_ n4_ n5_ n6_ n7_ n8_ n9_ n10_ n11_ n12_; clear hb ho115; obtain ⟨Ao117, co117, eo117⟩ := Kd.R_slice HO401.out; subst eo117) | ((with_reducible refine gate_builtin (b := .append) (xs := #[.tmp 141, .tmp 146]) rfl ?_); (try (refine gate_guard (by rfl) ?_; dsimp only)); at_builtin; refine Kd.R_append_rows (Kd.int .i64) (w0 := w) w.heap.size rfl (.tmp 141) (.tmp 146) 22 2 (.int .i64 0) 8 rfl Try.underlying22 info2 rfl (by decide) (by omega) u15 x15_4 y399 _ _ _ (fun k_ => some k_ ≠ (.slice Ao11 t342.length co11 : Value).ownBlock ∧ some k_ ≠ (.slice Ao16 t353.length co16 : Value).ownBlock ∧ some k_ ≠ (.slice Ao54 t376.length co54 : Value).ownBlock ∧ some k_ ≠ (.slice Ao117 y399.length co117 : Value).ownBlock) (fun _ => False) rfl rfl ?aO ?aR (fun _ _ h => h) (fun _ h => h.elim) ?aF ?aB ?aS ?aL ?_; (case aR => repeat (first | exact (Kd.R_reads' HO401.out).2.2 | (with_reducible refine Kd.C_alloc ?_ _) | (with_reducible refine Kd.C_drewN ?_ _) | (with_reducible refine Kd.C_drew ?_))); (case aB => exact (qdk9_17 HB GE352 GE361 GE384 GE392)); (case aF => exact (fun k_ hk => ⟨Kd.fresh' (Kd.R_lt (qdk9_1 HO_353000)) k_ hk, Kd.fresh' (Kd.R_lt (qdk9_1 HO_362000)) k_ hk, Kd.fresh' (Kd.R_lt (qdk9_1 HO_385000)) k_ hk, Kd.fresh' (Kd.R_lt (qdk9_1 HO401)) k_ hk⟩)); (case aO => exact (by (with_reducible repeat (first | apply Kd.R_alloc | apply Kd.R_drewN | apply Kd.R_drew)); exact Kd.R_mono HO_15.out (fun _ hk => ⟨hk.1.1, ⟨hk.1.2.1, ⟨hk.1.2.2, hk.2⟩⟩⟩))); (case aS => exact (below_size (qdk9_17 HB GE352 GE361 GE384 GE392))); (case aL => have := LMc105.out; omega); intro v403 w116 ho hb hg hat; rw [← Ny402.out] at ho; have n0_ := Aside0.mk (Kd.R_after (ok := (fun k_ => some k_ ≠ (.slice Ao16 t353.length co16 : Value).ownBlock ∧ some k_ ≠ (.slice Ao54 t376.length co54 : Value).ownBlock ∧ some k_ ≠ (.slice Ao117 y399.length co117 : Value).ownBlock)) (qdk9_20 HO_353000) hg hat); have n1_ := Aside0.mk (Kd.R_over' (qdk9_1 HO_353001) (Kd.R_typed (qdk9_1 HO_15)) (by decide) hg); have n2_ := Aside0.mk (Kd.R_after (ok := (fun k_ => some k_ ≠ (.slice Ao11 t342.length co11 : Value).ownBlock ∧ some k_ ≠ (.slice Ao54 t376.length co54 : Value).ownBlock ∧ some k_ ≠ (.slice Ao117 y399.length co117 : Value).ownBlock)) (qdk9_20 HO_362000) hg hat); have n3_ := Aside0.mk (Kd.R_over' (qdk9_1 HO_362001) (Kd.R_typed (qdk9_1 HO_15)) (by decide) hg); have n4_ := Aside0.mk (Kd.R_after (ok := (fun k_ => some k_ ≠ (.slice Ao11 t342.length co11 : Value).ownBlock ∧ some k_ ≠ (.slice Ao16 t353.length co16 : Value).ownBlock ∧ some k_ ≠ (.slice Ao117 y399.length co117 : Value).ownBlock)) (qdk9_20 HO_385000) hg hat); have n5_ := Aside0.mk (Kd.R_over' (qdk9_1 HO_385001) (Kd.R_typed (qdk9_1 HO_15)) (by decide) hg); have n6_ := Aside0.mk (blk_grown (g := gb352) (o := .cells #[.slice Ao11 t342.length co11, .slice (some ad391) t345.length co13, .int .i64 t348] 25 (0, 0)) (qdk9_2 BK352) hg (Kd.R_ne HO_15.out BK352.out (by decide))); have n7_ := Aside0.mk (blk_grown (g := gb361) (o := .cells #[.slice Ao16 t353.length co16, .slice Ao19 t356.length co19, .int .i64 t359] 25 (0, 0)) (qdk9_2 BK361) hg (Kd.R_ne HO_15.out BK361.out (by decide))); have n8_ := Aside0.mk (blk_grown (g := gb384) (o := .cells #[.slice Ao54 t376.length co54, .slice Ao58 t379.length co58, .int .i64 t382] 25 (0, 0)) (qdk9_2 BK384) hg (Kd.R_ne HO_15.out BK384.out (by decide))); have n9_ := Aside0.mk (blk_grown (g := gb392) (o := .cells #[.int .u64 ((rd_T62 t345 x16_4).f0), .int .i64 ((rd_T62 t345 x16_4).f1), .int .i64 ((rd_T62 t345 x16_4).f2), .bool false] 62 (0, 0)) (qdk9_2 BK392) hg (Kd.R_ne HO_15.out BK392.out (by decide))); have n10_ := Aside0.mk (Kd.R_after (ok := (fun k_ => some k_ ≠ (.slice Ao11 t342.length co11 : Value).ownBlock ∧ some k_ ≠ (.slice Ao16 t353.length co16 : Value).ownBlock ∧ some k_ ≠ (.slice Ao54 t376.length co54 : Value).ownBlock)) (by (with_reducible repeat (first | apply Kd.R_alloc | apply Kd.R_drewN | apply Kd.R_drew)); exact Kd.R_mono HO401.out (fun _ hk => ⟨⟨hk.1.1.2, ⟨hk.1.2, hk.2⟩⟩, hk.1.1.1.2⟩)) hg hat); have n11_ := Aside0.mk (hb); have n12_ := Aside0.mk (ho); clear HO_353000 HO_353001 HO_362000 HO_362001 HO_385000 HO_385001 BK352 BK361 BK384 BK392 HO401 HB HO_15; have HO_353000 := n0_; have HO_353001 := n1_; have HO_362000 := n2_; have HO_362001 := n3_; have HO_385000 := n4_; have HO_385001 := n5_; have BK352 := n6_; have BK361 := n7_; have BK384 := n8_; have BK392 := n9_; have HO401 := n10_; have HB := n11_; have HO404 := n12_; clear n0_ n1_ n2_ n3_ n4_ n5_ n6_ n7_ n8_ n9_ n10_ n11_ n12_; clear ho hb hg hat))
             go_roundg k4
             case measure => have := HJ7.out; have := HJ35.out; have := HJ48.out; have := HK4.out; omega
             case rel => exact ⟨(y402), (wrap64 (x16_4 + 1)), qdk9_22, H', ⟨(by have := HJ7.out; have := HJ35.out; have := HJ48.out; have := HK4.out; omega)⟩, ⟨(by (with_reducible repeat (first | apply Kd.R_alloc | apply Kd.R_drewN | apply Kd.R_drew)); exact Kd.R_mono HO404.out (fun _ hk => ⟨hk.1, ⟨hk.2.1, hk.2.2.1⟩⟩))⟩, ⟨(rdk9_11 HO_353000)⟩, ⟨(rdk9_12 HO_353001)⟩, ⟨(rdk9_11 HO_362000)⟩, ⟨(rdk9_12 HO_362001)⟩, ⟨(rdk9_11 HO_385000)⟩, ⟨(rdk9_12 HO_385001)⟩, ⟨(rdk9_1 BK352)⟩, ⟨(rdk9_1 BK361)⟩, ⟨(rdk9_1 BK384)⟩, ⟨(rdk9_14 HB GE352 GE361 GE384 GE392)⟩⟩
            rw [if_neg c105] at H
            exact absurd H (by simp)
           rw [if_neg c71] at H
           exact absurd H (by simp)
          rw [if_neg c70] at H
          have c70b0 : decide (x16_4 < (t345.length : Int)) = false := decide_eq_false c70
          clear c70
          obtain ⟨y405, hy405⟩ : ∃ y_ : List Int, y_ = (([] : List Int)) := ⟨_, rfl⟩
          replace H : (laws_FnDictKept.l1 k4 x15_4 y405 0 t376 t379 t382) = some r := by first | (rw [hy405]; with_reducible exact H) | (have H2_ := (Option.bind_some _ _).symm.trans H; rw [hy405]; with_reducible exact H2_) | (have H2_ := (Option.bind_some _ _).symm.trans H; with_reducible exact H2_) | with_reducible exact H | (rw [hy405]; exact H) | exact H
          have Ny405 := Aside0.mk hy405
          clear hy405
          have H' := Aside0.mk H
          clear H
          have hnb118 := NB352_361.out
          have hnc118 := NB361_352.out
          have hnb119 := NB352_384.out
          have hnc119 := NB384_352.out
          have hcz120_0 : wr.cell? ⟨gb352, 0, none⟩ = some (.slice Ao11 t342.length co11) := (blk_cell BK352.out 0).trans rfl
          have hcz120_1 : wr.cell? ⟨gb352, 1, none⟩ = some (.slice Ao13 t345.length co13) := (blk_cell BK352.out 1).trans rfl
          have hcz120_2 : wr.cell? ⟨gb352, 2, none⟩ = some (.int .i64 t348) := (blk_cell BK352.out 2).trans rfl
          have hfz120_0 := blk_frozen BK352.out 0
          have hfz120_1 := blk_frozen BK352.out 1
          have hfz120_2 := blk_frozen BK352.out 2
          go_wp2_with (first | ((with_reducible refine gate_dst (N := 148) rfl ?_); (try (refine gate_guard (by rfl) ?_; dsimp only)); refine Kd.R_lit (Kd.int .i64) _ 2 ?hg (N := 148) ?hd (xs := ([] : List Int)) (inner := []) (ok := fun _ => True) (okp := fun _ => True) ?hr ?hp (fun _ hk => hk) trivial (Below.refl _ _) (Nat.le_refl _) (by simp) ?_; (case hd => rfl); (case hg => rfl); (case hr => exact qdk9_24); (case hp => exact (Reps.none _ _)); intro v406 w121 ho122 hb hg_ hnew_; clear hg_ hnew_; (first | rw [← Ny405.out] at ho122 | (simp only [Int.reduceToNat] at ho122; rw [← Ny405.out] at ho122)); have n0_ := Aside0.mk (Kd.R_elder' (qdk9_1 HO_15) (Kd.R_base ho122) hb); have n1_ := Aside0.mk (Kd.R_elder' (qdk9_1 HO_353000) (Kd.R_base ho122) hb); have n2_ := Aside0.mk (Kd.R_below (qdk9_1 HO_353001) hb); have n3_ := Aside0.mk (Kd.R_elder' (qdk9_1 HO_362000) (Kd.R_base ho122) hb); have n4_ := Aside0.mk (Kd.R_below (qdk9_1 HO_362001) hb); have n5_ := Aside0.mk (Kd.R_elder' (qdk9_1 HO_385000) (Kd.R_base ho122) hb); have n6_ := Aside0.mk (Kd.R_below (qdk9_1 HO_385001) hb); have n7_ := Aside0.mk (Kd.R_lower (Kd.R_new' (Kd.R_new' (Kd.R_new' (Kd.R_new' ho122 (Kd.R_lt (qdk9_1 HO_15))) (Kd.R_lt (qdk9_1 HO_353000))) (Kd.R_lt (qdk9_1 HO_362000))) (Kd.R_lt (qdk9_1 HO_385000))) (below_size (qdk9_4 HB GE352 GE361 GE384))); have n8_ := Aside0.mk (blk_below (g := gb352) (o := .cells #[.slice Ao11 t342.length co11, .slice Ao13 t345.length co13, .int .i64 t348] 25 (0, 0)) (qdk9_2 BK352) hb); have n9_ := Aside0.mk (blk_below (g := gb361) (o := .cells #[.slice Ao16 t353.length co16, .slice Ao19 t356.length co19, .int .i64 t359] 25 (0, 0)) (qdk9_2 BK361) hb); have n10_ := Aside0.mk (blk_below (g := gb384) (o := .cells #[.slice Ao54 t376.length co54, .slice Ao58 t379.length co58, .int .i64 t382] 25 (0, 0)) (qdk9_2 BK384) hb); have n11_ := Aside0.mk (below_step (qdk9_4 HB GE352 GE361 GE384) hb); clear HO_15 HO_353000 HO_353001 HO_362000 HO_362001 HO_385000 HO_385001 BK352 BK361 BK384 HB; have HO_15 := n0_; have HO_353000 := n1_; have HO_353001 := n2_; have HO_362000 := n3_; have HO_362001 := n4_; have HO_385000 := n5_; have HO_385001 := n6_; have HO407 := n7_; have BK352 := n8_; have BK361 := n9_; have BK384 := n10_; have HB := n11_; clear n0_ n1_ n2_ n3_ n4_ n5_ n6_ n7_ n8_ n9_ n10_ n11_; clear hb ho122))
          go_loopg [18, 19] k4 (fun kq v18 v19 w' => ∃ (x18_5 : List Int) (x19_5 : Int), v19 = .int .i64 x19_5 ∧ Aside0 (laws_FnDictKept.l1 kq x15_4 x18_5 x19_5 t376 t379 t382 = some r) ∧ Aside0 (kq ≤ k4) ∧ Aside0 (Kd.R (Kd.int .i64) 2 w' w.heap.size (fun k_ => some k_ ≠ (v18 : Value).ownBlock ∧ some k_ ≠ ((.slice Ao11 t342.length co11) : Value).ownBlock ∧ some k_ ≠ ((.slice Ao16 t353.length co16) : Value).ownBlock ∧ some k_ ≠ ((.slice Ao54 t376.length co54) : Value).ownBlock) u15 x15_4) ∧ Aside0 (Kd.R (Kd.int .i64) 2 w' w.heap.size (fun k_ => some k_ ≠ (u15 : Value).ownBlock ∧ some k_ ≠ ((.slice Ao11 t342.length co11) : Value).ownBlock ∧ some k_ ≠ ((.slice Ao16 t353.length co16) : Value).ownBlock ∧ some k_ ≠ ((.slice Ao54 t376.length co54) : Value).ownBlock) v18 x18_5) ∧ Aside0 (Kd.R (Kd.int .i64) 2 w' w.heap.size (fun k_ => some k_ ≠ (u15 : Value).ownBlock ∧ some k_ ≠ (v18 : Value).ownBlock ∧ some k_ ≠ ((.slice Ao16 t353.length co16) : Value).ownBlock ∧ some k_ ≠ ((.slice Ao54 t376.length co54) : Value).ownBlock) (.slice Ao11 t342.length co11) t342) ∧ Aside0 (Kd.R k62 62 w' w.heap.size (fun k_ => some k_ ≠ ((.slice Ao19 t356.length co19) : Value).ownBlock ∧ some k_ ≠ ((.slice Ao58 t379.length co58) : Value).ownBlock) (.slice Ao13 t345.length co13) t345) ∧ Aside0 (Kd.R (Kd.int .i64) 2 w' w.heap.size (fun k_ => some k_ ≠ (u15 : Value).ownBlock ∧ some k_ ≠ (v18 : Value).ownBlock ∧ some k_ ≠ ((.slice Ao11 t342.length co11) : Value).ownBlock ∧ some k_ ≠ ((.slice Ao54 t376.length co54) : Value).ownBlock) (.slice Ao16 t353.length co16) t353) ∧ Aside0 (Kd.R k62 62 w' w.heap.size (fun k_ => some k_ ≠ ((.slice Ao13 t345.length co13) : Value).ownBlock ∧ some k_ ≠ ((.slice Ao58 t379.length co58) : Value).ownBlock) (.slice Ao19 t356.length co19) t356) ∧ Aside0 (Kd.R (Kd.int .i64) 2 w' w.heap.size (fun k_ => some k_ ≠ (u15 : Value).ownBlock ∧ some k_ ≠ (v18 : Value).ownBlock ∧ some k_ ≠ ((.slice Ao11 t342.length co11) : Value).ownBlock ∧ some k_ ≠ ((.slice Ao16 t353.length co16) : Value).ownBlock) (.slice Ao54 t376.length co54) t376) ∧ Aside0 (Kd.R k62 62 w' w.heap.size (fun k_ => some k_ ≠ ((.slice Ao13 t345.length co13) : Value).ownBlock ∧ some k_ ≠ ((.slice Ao19 t356.length co19) : Value).ownBlock) (.slice Ao58 t379.length co58) t379) ∧ Aside0 (w'.heap[gb352]? = some (.cells #[(.slice Ao11 t342.length co11), (.slice Ao13 t345.length co13), .int .i64 t348] 25 (0, 0))) ∧ Aside0 (w'.heap[gb361]? = some (.cells #[(.slice Ao16 t353.length co16), (.slice Ao19 t356.length co19), .int .i64 t359] 25 (0, 0))) ∧ Aside0 (w'.heap[gb384]? = some (.cells #[(.slice Ao54 t376.length co54), (.slice Ao58 t379.length co58), .int .i64 t382] 25 (0, 0))) ∧ Aside0 (Below w.heap.size w w'))
          case atStart => exact ⟨(y405), (0), qdk9_22, H', ⟨Nat.le_refl _⟩, ⟨(by (with_reducible repeat (first | apply Kd.R_alloc | apply Kd.R_drewN | apply Kd.R_drew)); exact Kd.R_mono HO_15.out (fun _ hk => ⟨hk.2, ⟨hk.1.1, ⟨hk.1.2.1, hk.1.2.2⟩⟩⟩))⟩, ⟨(by (with_reducible repeat (first | apply Kd.R_alloc | apply Kd.R_drewN | apply Kd.R_drew)); exact Kd.R_mono HO407.out (fun _ hk => ⟨hk.1.1.1.2, ⟨hk.1.1.2, ⟨hk.1.2, hk.2⟩⟩⟩))⟩, ⟨(rdk9_16 HO_353000)⟩, ⟨(rdk9_2 HO_353001)⟩, ⟨(rdk9_16 HO_362000)⟩, ⟨(rdk9_2 HO_362001)⟩, ⟨(rdk9_16 HO_385000)⟩, ⟨(rdk9_2 HO_385001)⟩, ⟨(rdk9_1 BK352)⟩, ⟨(rdk9_1 BK361)⟩, ⟨(rdk9_1 BK384)⟩, ⟨(rdk9_7 HB GE352 GE361 GE384)⟩⟩
          case round =>
           clear H'
           (try clear c1);(try clear c2);(try clear p2);(try clear c3);(try clear p3);(try clear q3);(try clear hx3);(try clear c4);(try clear c5);(try clear c6);(try clear p6);(try clear c7);(try clear q7);(try clear c8);(try clear c9);(try clear c10);(try clear c11);(try clear c16);(try clear c17);(try clear c20);(try clear c22);(try clear c24);(try clear c26);(try clear c31);(try clear c34);(try clear c35);(try clear c36);(try clear c37);(try clear p37);(try clear q37);(try clear hx37);(try clear p39);(try clear q39);(try clear hx39);(try clear c40);(try clear c40b0);(try clear c41);(try clear c41b0);(try clear c42);(try clear c42b0);(try clear c43);(try clear c43b0);(try clear c44);(try clear c46);(try clear c50);(try clear c55);(try clear c56);(try clear c60);(try clear c61);(try clear c61b0);(try clear c61b1);(try clear c63);(try clear c64);(try clear p64);(try clear c67);(try clear c70);(try clear c70b0);(try clear c71);(try clear c71b0);(try clear q72);(try clear c73);(try clear c74);(try clear c75);(try clear c78);(try clear c79);(try clear c80);(try clear c82);(try clear c82b0);(try clear c82b1);(try clear c83);(try clear c83b0);(try clear c83b1);(try clear c84);(try clear c85);(try clear c88);(try clear c89);(try clear c90);(try clear c92);(try clear c93);(try clear c94);(try clear c97);(try clear c98);(try clear c99);(try clear c105);(try clear c106);(try clear c107);(try clear c110);(try clear c111);(try clear c112);(try clear c118);(try clear c119);(try clear hcz100_0);(try clear hcz100_1);(try clear hcz100_2);(try clear hcz100_3);(try clear hcz108_0);(try clear hcz108_1);(try clear hcz108_2);(try clear hcz113_0);(try clear hcz113_1);(try clear hcz113_2);(try clear hcz113_3);(try clear hcz120_0);(try clear hcz120_1);(try clear hcz120_2);(try clear hcz12_0);(try clear hcz12_1);(try clear hcz12_2);(try clear hcz18_0);(try clear hcz18_1);(try clear hcz18_2);(try clear hcz20_0);(try clear hcz20_1);(try clear hcz20_2);(try clear hcz27_0);(try clear hcz27_1);(try clear hcz27_2);(try clear hcz29_0);(try clear hcz29_1);(try clear hcz29_2);(try clear hcz32_0);(try clear hcz32_1);(try clear hcz32_2);(try clear hcz38_0);(try clear hcz38_1);(try clear hcz38_2);(try clear hcz45_0);(try clear hcz45_1);(try clear hcz45_2);(try clear hcz51_0);(try clear hcz51_1);(try clear hcz51_2);(try clear hcz57_0);(try clear hcz57_1);(try clear hcz57_2);(try clear hcz65_0);(try clear hcz65_1);(try clear hcz65_2);(try clear hcz76_0);(try clear hcz76_1);(try clear hcz76_2);(try clear hcz81_0);(try clear hcz81_1);(try clear hcz81_2);(try clear hcz81_3);(try clear hcz86_0);(try clear hcz86_1);(try clear hcz86_2);(try clear hcz91_0);(try clear hcz91_1);(try clear hcz91_2);(try clear hcz91_3);(try clear hcz95_0);(try clear hcz95_1);(try clear hcz95_2);(try clear hfz100_0);(try clear hfz100_1);(try clear hfz100_2);(try clear hfz100_3);(try clear hfz108_0);(try clear hfz108_1);(try clear hfz108_2);(try clear hfz113_0);(try clear hfz113_1);(try clear hfz113_2);(try clear hfz113_3);(try clear hfz120_0);(try clear hfz120_1);(try clear hfz120_2);(try clear hfz12_0);(try clear hfz12_1);(try clear hfz12_2);(try clear hfz18_0);(try clear hfz18_1);(try clear hfz18_2);(try clear hfz20_0);(try clear hfz20_1);(try clear hfz20_2);(try clear hfz27_0);(try clear hfz27_1);(try clear hfz27_2);(try clear hfz29_0);(try clear hfz29_1);(try clear hfz29_2);(try clear hfz32_0);(try clear hfz32_1);(try clear hfz32_2);(try clear hfz38_0);(try clear hfz38_1);(try clear hfz38_2);(try clear hfz45_0);(try clear hfz45_1);(try clear hfz45_2);(try clear hfz51_0);(try clear hfz51_1);(try clear hfz51_2);(try clear hfz57_0);(try clear hfz57_1);(try clear hfz57_2);(try clear hfz65_0);(try clear hfz65_1);(try clear hfz65_2);(try clear hfz76_0);(try clear hfz76_1);(try clear hfz76_2);(try clear hfz81_0);(try clear hfz81_1);(try clear hfz81_2);(try clear hfz81_3);(try clear hfz86_0);(try clear hfz86_1);(try clear hfz86_2);(try clear hfz91_0);(try clear hfz91_1);(try clear hfz91_2);(try clear hfz91_3);(try clear hfz95_0);(try clear hfz95_1);(try clear hfz95_2);(try clear hx375_0);(try clear hx375_1);(try clear hx375_2);(try clear hx375_3);(try clear hx391_0);(try clear hx391_1);(try clear hx391_2);(try clear hx391_3);(try clear p2);(try clear p3);(try clear p37);(try clear p375);(try clear p391);(try clear q3);(try clear q37);(try clear q375);(try clear q391)
           obtain ⟨x18_5, x19_5, rfl, HA, HK5, HO_15, HO_18, HO_353000, HO_353001, HO_362000, HO_362001, HO_385000, HO_385001, BK352, BK361, BK384, HB⟩ := hrel
           cases gk with
           | zero => exact absurd HA.out (by simp [laws_FnDictKept.l1])
           | succ k5 =>
            have H := HA.out
            clear HA
            simp only [laws_FnDictKept.l1] at H
            by_cases c123 : x19_5 < (t379.length : Int)
            ·rw [if_pos c123] at H
             have c123b0 : decide (x19_5 < (t379.length : Int)) = true := decide_eq_true c123
             clear c123
             by_cases c124 : 0 ≤ x19_5
             ·rw [if_pos c124] at H
              have c124b0 : decide (0 ≤ x19_5) = true := decide_eq_true c124
              clear c124
              obtain ⟨bq125, hbq125⟩ : ∃ b_ : Bool, b_ = ((rd_T62 t379 x19_5).f3) := ⟨_, rfl⟩
              replace H : (if (bq125 = true) then (laws_FnDictKept.l1 k5 x15_4 x18_5 (wrap64 (x19_5 + 1)) t376 t379 t382) else ((some (([(rd_T62 t379 x19_5).f1, (rd_T62 t379 x19_5).f2] : List Int) : List Int)).bind fun y411 => (if x18_5.length + y411.length < 17592186044416 then (laws_FnDictKept.l1 k5 x15_4 (x18_5 ++ y411) (wrap64 (x19_5 + 1)) t376 t379 t382) else (none)))) = some r := by rw [← hbq125] at H; exact H
              have Nbq125 := Aside0.mk hbq125
              clear hbq125
              by_cases c126 : (bq125 = true)
              ·subst c126
               have H1 : (laws_FnDictKept.l1 k5 x15_4 x18_5 (wrap64 (x19_5 + 1)) t376 t379 t382) = some r := by rw [if_pos rfl] at H; exact H
               clear H
               have H := H1
               clear H1
               have H' := Aside0.mk H
               clear H
               have hnb127 := NB384_352.out
               have hnc127 := NB352_384.out
               have hnb128 := NB384_361.out
               have hnc128 := NB361_384.out
               have hcz129_0 : wr.cell? ⟨gb384, 0, none⟩ = some (.slice Ao54 t376.length co54) := (blk_cell BK384.out 0).trans rfl
               have hcz129_1 : wr.cell? ⟨gb384, 1, none⟩ = some (.slice Ao58 t379.length co58) := (blk_cell BK384.out 1).trans rfl
               have hcz129_2 : wr.cell? ⟨gb384, 2, none⟩ = some (.int .i64 t382) := (blk_cell BK384.out 2).trans rfl
               have hfz129_0 := blk_frozen BK384.out 0
               have hfz129_1 := blk_frozen BK384.out 1
               have hfz129_2 := blk_frozen BK384.out 2
               have p408 : 0 ≤ (x19_5 : Int) := of_decide_eq_true qdk9_21
               have q408 : x19_5 < (t379.length : Int) := of_decide_eq_true qdk9_21
               obtain ⟨ad408, e408, hx408_0, hx408_1, hx408_2, hx408_3⟩ := at_T62 (Kd.R_reads' HO_385001.out).2.2 x19_5 p408 q408
               (try rw [← Nbq125.out] at hx408_3)
               (try rw [← Nbq125.out] at hw408_3)
               cases e408
               replace p408 := eq_true p408
               replace q408 := eq_true q408
               go_wp2
               go_roundg k5
               case measure => have := HJ7.out; have := HJ35.out; have := HJ48.out; have := HK4.out; have := HK5.out; omega
               case rel => exact ⟨(x18_5), (wrap64 (x19_5 + 1)), qdk9_22, H', ⟨(by have := HJ7.out; have := HJ35.out; have := HJ48.out; have := HK4.out; have := HK5.out; omega)⟩, ⟨(rdk9_2 HO_15)⟩, ⟨(rdk9_2 HO_18)⟩, ⟨(rdk9_2 HO_353000)⟩, ⟨(rdk9_2 HO_353001)⟩, ⟨(rdk9_2 HO_362000)⟩, ⟨(rdk9_2 HO_362001)⟩, ⟨(rdk9_2 HO_385000)⟩, ⟨(rdk9_2 HO_385001)⟩, ⟨(rdk9_1 BK352)⟩, ⟨(rdk9_1 BK361)⟩, ⟨(rdk9_1 BK384)⟩, ⟨(rdk9_7 HB GE352 GE361 GE384)⟩⟩
              replace c126 := Bool.eq_false_iff.mpr c126
              subst c126
              have H1 : ((some (([(rd_T62 t379 x19_5).f1, (rd_T62 t379 x19_5).f2] : List Int) : List Int)).bind fun y411 => (if x18_5.length + y411.length < 17592186044416 then (laws_FnDictKept.l1 k5 x15_4 (x18_5 ++ y411) (wrap64 (x19_5 + 1)) t376 t379 t382) else (none))) = some r := by rw [if_neg (show ¬ (false = true) by decide)] at H; exact H
              clear H
              have H := H1
              clear H1
              obtain ⟨y411, hy411⟩ : ∃ y_ : List Int, y_ = (([(rd_T62 t379 x19_5).f1, (rd_T62 t379 x19_5).f2] : List Int)) := ⟨_, rfl⟩
              replace H : (if x18_5.length + y411.length < 17592186044416 then (laws_FnDictKept.l1 k5 x15_4 (x18_5 ++ y411) (wrap64 (x19_5 + 1)) t376 t379 t382) else (none)) = some r := by first | (rw [hy411]; with_reducible exact H) | (have H2_ := (Option.bind_some _ _).symm.trans H; rw [hy411]; with_reducible exact H2_) | (have H2_ := (Option.bind_some _ _).symm.trans H; with_reducible exact H2_) | with_reducible exact H | (rw [hy411]; exact H) | exact H
              have Ny411 := Aside0.mk hy411
              clear hy411
              by_cases c130 : x18_5.length + y411.length < 17592186044416
              ·rw [if_pos c130] at H
               have LMc130 := Aside0.mk c130
               clear c130
               obtain ⟨y414, hy414⟩ : ∃ y_ : List Int, y_ = (x18_5 ++ y411) := ⟨_, rfl⟩
               replace H : (laws_FnDictKept.l1 k5 x15_4 y414 (wrap64 (x19_5 + 1)) t376 t379 t382) = some r := by first | (rw [hy414]; with_reducible exact H) | (have H2_ := (Option.bind_some _ _).symm.trans H; rw [hy414]; with_reducible exact H2_) | (have H2_ := (Option.bind_some _ _).symm.trans H; with_reducible exact H2_) | with_reducible exact H | (rw [hy414]; exact H) | exact H
               have Ny414 := Aside0.mk hy414
               clear hy414
               have H' := Aside0.mk H
               clear H
               have hnb131 := NB384_352.out
               have hnc131 := NB352_384.out
               have hnb132 := NB384_361.out
               have hnc132 := NB361_384.out
               have hcz133_0 : wr.cell? ⟨gb384, 0, none⟩ = some (.slice Ao54 t376.length co54) := (blk_cell BK384.out 0).trans rfl
               have hcz133_1 : wr.cell? ⟨gb384, 1, none⟩ = some (.slice Ao58 t379.length co58) := (blk_cell BK384.out 1).trans rfl
               have hcz133_2 : wr.cell? ⟨gb384, 2, none⟩ = some (.int .i64 t382) := (blk_cell BK384.out 2).trans rfl
               have hfz133_0 := blk_frozen BK384.out 0
               have hfz133_1 := blk_frozen BK384.out 1
               have hfz133_2 := blk_frozen BK384.out 2
               have p408 : 0 ≤ (x19_5 : Int) := of_decide_eq_true qdk9_21
               have q408 : x19_5 < (t379.length : Int) := of_decide_eq_true qdk9_21
               obtain ⟨ad408, e408, hx408_0, hx408_1, hx408_2, hx408_3⟩ := at_T62 (Kd.R_reads' HO_385001.out).2.2 x19_5 p408 q408
               (try rw [← Nbq125.out] at hx408_3)
               (try rw [← Nbq125.out] at hw408_3)
               cases e408
               replace p408 := eq_true p408
               replace q408 := eq_true q408
               try go_wp2
               have n0_ := Aside0.mk (Kd.R_drew HO_15.out)
               have n1_ := Aside0.mk (Kd.R_drew HO_18.out)
               have n2_ := Aside0.mk (Kd.R_drew HO_353000.out)
               have n3_ := Aside0.mk (Kd.R_drew HO_353001.out)
               have n4_ := Aside0.mk (Kd.R_drew HO_362000.out)
               have n5_ := Aside0.mk (Kd.R_drew HO_362001.out)
               have n6_ := Aside0.mk (Kd.R_drew HO_385000.out)
               have n7_ := Aside0.mk (Kd.R_drew HO_385001.out)
               have n8_ := Aside0.mk (blk_drew BK352.out)
               have n9_ := Aside0.mk (blk_drew BK361.out)
               have n10_ := Aside0.mk (blk_drew BK384.out)
               have n11_ := Aside0.mk (below_drew1 HB.out)
               clear HO_15 HO_18 HO_353000 HO_353001 HO_362000 HO_362001 HO_385000 HO_385001 BK352 BK361 BK384 HB
               have HO_15 := n0_
               have HO_18 := n1_
               have HO_353000 := n2_
               have HO_353001 := n3_
               have HO_362000 := n4_
               have HO_362001 := n5_
               have HO_385000 := n6_
               have HO_385001 := n7_
               have BK352 := n8_
               have BK361 := n9_
               have BK384 := n10_
               have HB := n11_
               clear n0_ n1_ n2_ n3_ n4_ n5_ n6_ n7_ n8_ n9_ n10_ n11_
               have p409 : 0 ≤ (x19_5 : Int) := of_decide_eq_true qdk9_21
               have q409 : x19_5 < (t379.length : Int) := of_decide_eq_true qdk9_21
               obtain ⟨ad409, e409, hx409_0, hx409_1, hx409_2, hx409_3⟩ := at_T62 (Kd.R_reads' HO_385001.out).2.2 x19_5 p409 q409
               (try rw [← Nbq125.out] at hx409_3)
               (try rw [← Nbq125.out] at hw409_3)
               obtain rfl : ad408 = ad409 := (by injection e409)
               replace p409 := eq_true p409
               replace q409 := eq_true q409
               have p410 : 0 ≤ (x19_5 : Int) := of_decide_eq_true qdk9_21
               have q410 : x19_5 < (t379.length : Int) := of_decide_eq_true qdk9_21
               obtain ⟨ad410, e410, hx410_0, hx410_1, hx410_2, hx410_3⟩ := at_T62 (Kd.R_reads' HO_385001.out).2.2 x19_5 p410 q410
               (try rw [← Nbq125.out] at hx410_3)
               (try rw [← Nbq125.out] at hw410_3)
               obtain rfl : ad408 = ad410 := (by injection e410)
               replace p410 := eq_true p410
               replace q410 := eq_true q410
               refine start_ (n := 16) (S := fun w' => w'.cell? ⟨gb384, 0, none⟩ = some (.slice Ao54 t376.length co54) ∧ w'.cell? ⟨gb384, 1, none⟩ = some (.slice (some ad408) t379.length co58) ∧ w'.cell? ⟨gb384, 2, none⟩ = some (.int .i64 t382) ∧ w'.cell? (ad408.add ((x19_5).toNat * 4)) = some (.int .u64 ((rd_T62 t379 x19_5).f0)) ∧ w'.cell? ⟨(ad408.add ((x19_5).toNat * 4)).block, (ad408.add ((x19_5).toNat * 4)).off + 1, none⟩ = some (.int .i64 ((rd_T62 t379 x19_5).f1)) ∧ w'.cell? ⟨(ad408.add ((x19_5).toNat * 4)).block, (ad408.add ((x19_5).toNat * 4)).off + 2, none⟩ = some (.int .i64 ((rd_T62 t379 x19_5).f2)) ∧ w'.cell? ⟨(ad408.add ((x19_5).toNat * 4)).block, (ad408.add ((x19_5).toNat * 4)).off + 3, none⟩ = some (.bool (false)) ∧ w'.cell? (ad408.add ((x19_5).toNat * 4)) = some (.int .u64 ((rd_T62 t379 x19_5).f0)) ∧ w'.cell? ⟨(ad408.add ((x19_5).toNat * 4)).block, (ad408.add ((x19_5).toNat * 4)).off + 1, none⟩ = some (.int .i64 ((rd_T62 t379 x19_5).f1)) ∧ w'.cell? ⟨(ad408.add ((x19_5).toNat * 4)).block, (ad408.add ((x19_5).toNat * 4)).off + 2, none⟩ = some (.int .i64 ((rd_T62 t379 x19_5).f2)) ∧ w'.cell? ⟨(ad408.add ((x19_5).toNat * 4)).block, (ad408.add ((x19_5).toNat * 4)).off + 3, none⟩ = some (.bool (false))) (ds := [14]) (bs_ 16 0) qdk9_26 rfl rfl ⟨(blk_cell BK384.out 0).trans rfl, (blk_cell BK384.out 1).trans rfl, (blk_cell BK384.out 2).trans rfl, hx409_0, hx409_1, hx409_2, hx409_3, hx410_0, hx410_1, hx410_2, hx410_3⟩ (fun hHeld => ?_); refine with_tabW laws_FnDictKept.tab28 laws_FnDictKept.bits28 (fun HT_ HW_ => ?_)
               generalize wr.drew = w134 at HO_15 HO_18 HO_353000 HO_353001 HO_362000 HO_362001 HO_385000 HO_385001 BK352 BK361 BK384 HB hx409_0 hx409_1 hx409_2 hx409_3 hx410_0 hx410_1 hx410_2 hx410_3 hHeld ⊢
               refine pure_ (i := 0) (N := some 163) (bs_ 16 1) rfl rfl (any_of HT_.out qdk9_26) (fun _ _ _ h => h) (Or.inl ⟨by rfl, qpy_pdkx9⟩) qpa_pdkx9 ?_
               refine pure_ (i := 1) (N := some 164) (bs_ 16 3) rfl rfl (any_of HT_.out qdk9_26) (fun _ _ _ h => h) (Or.inl ⟨by rfl, qpy_pdkx9⟩) qpa_pdkx9 ?_
               refine pure_ (i := 3) (N := some 166) (bs_ 16 11) rfl rfl (any_of HT_.out qdk9_26) (fun _ _ _ h => h) (Or.inl ⟨by rfl, qpy_pdkx9⟩) qpa_pdkx9 ?_
               refine pure_ (i := 7) (N := some 170) (bs_ 16 139) rfl rfl (any_of HT_.out qdk9_26) (fun _ _ _ h => h) (Or.inl ⟨by rfl, qpy_pdkx9⟩) qpa_pdkx9 ?_
               refine pure_ (i := 9) (N := some 172) (bs_ 16 651) rfl rfl (any_of HT_.out qdk9_26) (fun _ _ _ h => h) (Or.inl ⟨by rfl, qpy_pdkx9⟩) qpa_pdkx9 ?_
               refine take_ (i := 2) (N := some 165) (bs_ 16 655) rfl rfl (take_ofW HT_.out HW_.out qdk9_26) (fun _ _ _ h => h) (Or.inl ⟨by rfl, qpt11_pdkx9⟩) hHeld qpa_pdkx9 ?_
               refine pure_ (i := 4) (N := some 167) (bs_ 16 671) rfl rfl (any_of HT_.out qdk9_26) (fun _ _ _ h => h) (Or.inl ⟨by rfl, qpy_pdkx9⟩) qpa_pdkx9 ?_
               refine pure_ (i := 5) (N := some 168) (bs_ 16 703) rfl rfl (any_of HT_.out qdk9_26) (fun _ _ _ h => h) (Or.inl ⟨by rfl, qpy_pdkx9⟩) qpa_pdkx9 ?_
               refine take_ (i := 6) (N := some 169) (bs_ 16 767) rfl rfl (take_ofW HT_.out HW_.out qdk9_26) (fun _ _ _ h => h) (Or.inl ⟨by rfl, qpt11_pdkx9⟩) hHeld qpa_pdkx9 ?_
               refine take_ (i := 8) (N := some 171) (bs_ 16 1023) rfl rfl (take_ofW HT_.out HW_.out qdk9_26) (fun _ _ _ h => h) (Or.inl ⟨by rfl, qpt11_pdkx9⟩) hHeld qpa_pdkx9 ?_
               refine pure_ (i := 10) (N := some 173) (bs_ 16 2047) rfl rfl (any_of HT_.out qdk9_26) (fun _ _ _ h => h) (Or.inl ⟨by rfl, qpy_pdkx9⟩) qpa_pdkx9 ?_
               refine pure_ (i := 11) (N := some 174) (bs_ 16 4095) rfl rfl (any_of HT_.out qdk9_26) (fun _ _ _ h => h) (Or.inl ⟨by rfl, qpy_pdkx9⟩) qpa_pdkx9 ?_
               refine take_ (i := 12) (N := some 175) (bs_ 16 8191) rfl rfl (take_ofW HT_.out HW_.out qdk9_26) (fun _ _ _ h => h) (Or.inl ⟨by rfl, qpt11_pdkx9⟩) hHeld qpa_pdkx9 ?_
               refine one_ (i := 13) (N := some 176) (bs_ 16 16383) rfl rfl (one_of HT_.out qdk9_26) (by decide) (fun K hK => ?_)
               refine Kd.R_lit_step (Kd.int .i64) _ 2 ?hg (N := 176) ?hd (xs := ([(rd_T62 t379 x19_5).f1, (rd_T62 t379 x19_5).f2] : List Int)) (inner := [.int .i64 ((rd_T62 t379 x19_5).f1), .int .i64 ((rd_T62 t379 x19_5).f2)]) (ok := fun _ => True) (okp := fun _ => True) ?hr ?hp (fun _ hk => hk) trivial (Below.refl _ _) (Nat.le_refl _) (by simp) ?_; (case hd => rfl); (case hg => rfl); (case hr => exact qdk9_24); (case hp => exact (Reps.one (show Kd.M (Kd.int .i64) _ _ _ ((rd_T62 t379 x19_5).f1) [.int .i64 ((rd_T62 t379 x19_5).f1)] from rfl) (Reps.one (show Kd.M (Kd.int .i64) _ _ _ ((rd_T62 t379 x19_5).f2) [.int .i64 ((rd_T62 t379 x19_5).f2)] from rfl) (Reps.none _ _))))
               intro v412 w135 ho136 hb hg_ hnew_
               have HS3_ := hbc_pdkx9 hb hHeld.2.2.2.1
               have HS4_ := hbc_pdkx9 hb hHeld.2.2.2.2.1
               have HS5_ := hbc_pdkx9 hb hHeld.2.2.2.2.2.1
               have HS6_ := hbc_pdkx9 hb hHeld.2.2.2.2.2.2.1
               have HS7_ := hbc_pdkx9 hb hHeld.2.2.2.2.2.2.2.1
               have HS8_ := hbc_pdkx9 hb hHeld.2.2.2.2.2.2.2.2.1
               have HS9_ := hbc_pdkx9 hb hHeld.2.2.2.2.2.2.2.2.2.1
               have HS10_ := hbc_pdkx9 hb hHeld.2.2.2.2.2.2.2.2.2.2
               clear hg_ hnew_
               (first | rw [← Ny411.out] at ho136 | (simp only [Int.reduceToNat] at ho136; rw [← Ny411.out] at ho136))
               have n0_ := Aside0.mk (Kd.R_elder' (qdk9_1 HO_15) (Kd.R_base ho136) hb)
               have n1_ := Aside0.mk (Kd.R_elder' (qdk9_1 HO_18) (Kd.R_base ho136) hb)
               have n2_ := Aside0.mk (Kd.R_elder' (qdk9_1 HO_353000) (Kd.R_base ho136) hb)
               have n3_ := Aside0.mk (Kd.R_below (qdk9_1 HO_353001) hb)
               have n4_ := Aside0.mk (Kd.R_elder' (qdk9_1 HO_362000) (Kd.R_base ho136) hb)
               have n5_ := Aside0.mk (Kd.R_below (qdk9_1 HO_362001) hb)
               have n6_ := Aside0.mk (Kd.R_elder' (qdk9_1 HO_385000) (Kd.R_base ho136) hb)
               have n7_ := Aside0.mk (Kd.R_below (qdk9_1 HO_385001) hb)
               have n8_ := Aside0.mk (Kd.R_lower (Kd.R_new' (Kd.R_new' (Kd.R_new' (Kd.R_new' (Kd.R_new' ho136 (Kd.R_lt (qdk9_1 HO_15))) (Kd.R_lt (qdk9_1 HO_18))) (Kd.R_lt (qdk9_1 HO_353000))) (Kd.R_lt (qdk9_1 HO_362000))) (Kd.R_lt (qdk9_1 HO_385000))) (below_size (qdk9_4 HB GE352 GE361 GE384)))
               have n9_ := Aside0.mk (blk_below (g := gb352) (o := .cells #[.slice Ao11 t342.length co11, .slice Ao13 t345.length co13, .int .i64 t348] 25 (0, 0)) (qdk9_2 BK352) hb)
               have n10_ := Aside0.mk (blk_below (g := gb361) (o := .cells #[.slice Ao16 t353.length co16, .slice Ao19 t356.length co19, .int .i64 t359] 25 (0, 0)) (qdk9_2 BK361) hb)
               have n11_ := Aside0.mk (blk_below (g := gb384) (o := .cells #[.slice Ao54 t376.length co54, .slice (some ad408) t379.length co58, .int .i64 t382] 25 (0, 0)) (qdk9_2 BK384) hb)
               have n12_ := Aside0.mk (below_step (qdk9_4 HB GE352 GE361 GE384) hb)
               clear HO_15 HO_18 HO_353000 HO_353001 HO_362000 HO_362001 HO_385000 HO_385001 BK352 BK361 BK384 HB
               have HO_15 := n0_
               have HO_18 := n1_
               have HO_353000 := n2_
               have HO_353001 := n3_
               have HO_362000 := n4_
               have HO_362001 := n5_
               have HO_385000 := n6_
               have HO_385001 := n7_
               have HO413 := n8_
               have BK352 := n9_
               have BK361 := n10_
               have BK384 := n11_
               have HB := n12_
               clear n0_ n1_ n2_ n3_ n4_ n5_ n6_ n7_ n8_ n9_ n10_ n11_ n12_ hb ho136
               obtain ⟨Ao138, co138, eo138⟩ := Kd.R_slice HO413.out
               (first | subst eo138 | (injection eo138 with f1_ f2_ f3_; have f4_ := f1_.symm; have f5_ := f3_.symm; clear f1_ f2_ f3_; subst f4_; subst f5_))
               refine hK.out _ _ ⟨(blk_cell BK384.out 0).trans rfl, (blk_cell BK384.out 1).trans rfl, (blk_cell BK384.out 2).trans rfl, HS3_, HS4_, HS5_, HS6_, HS7_, HS8_, HS9_, HS10_⟩ (fun hHeld => ?_)
               clear hK K
               refine norm_ (a' := ?_) ?_ ?_
               rotate_left
               ·show Act.put _ (some 176) _ = _
                simp only [Act.put, List.setIfInBounds_toArray, List.set_cons_zero, List.set_cons_succ, i64_w, i32_w]
                rfl
               refine last_ (i := 14) (N := some 177) (bs_ 16 32767) rfl rfl (one_of HT_.out qdk9_26) (by decide) (fun K hK => ?_)
               refine Kd.R_append_rows_step (Kd.int .i64) (w0 := w) w.heap.size (by rfl) (.tmp 163) (.tmp 176) 22 2 (.int .i64 0) 8 rfl Try.underlying22 info2 rfl (by decide) (by omega) u18 x18_5 y411 _ _ _ (fun k_ => some k_ ≠ (u15 : Value).ownBlock ∧ some k_ ≠ (.slice Ao11 t342.length co11 : Value).ownBlock ∧ some k_ ≠ (.slice Ao16 t353.length co16 : Value).ownBlock ∧ some k_ ≠ (.slice Ao54 t376.length co54 : Value).ownBlock ∧ some k_ ≠ (.slice Ao138 y411.length co138 : Value).ownBlock) (fun _ => False) rfl rfl ?aO ?aR (fun _ _ h => h) (fun _ h => h.elim) ?aF ?aB ?aS ?aL ?_
               (case aR => repeat (first | exact (Kd.R_reads' HO413.out).2.2 | (with_reducible refine Kd.C_alloc ?_ _) | (with_reducible refine Kd.C_drewN ?_ _) | (with_reducible refine Kd.C_drew ?_)))
               (case aB => exact (qdk9_4 HB GE352 GE361 GE384))
               (case aF => exact (fun k_ hk => ⟨Kd.fresh' (Kd.R_lt (qdk9_1 HO_15)) k_ hk, Kd.fresh' (Kd.R_lt (qdk9_1 HO_353000)) k_ hk, Kd.fresh' (Kd.R_lt (qdk9_1 HO_362000)) k_ hk, Kd.fresh' (Kd.R_lt (qdk9_1 HO_385000)) k_ hk, Kd.fresh' (Kd.R_lt (qdk9_1 HO413)) k_ hk⟩))
               (case aO => exact (by (with_reducible repeat (first | apply Kd.R_alloc | apply Kd.R_drewN | apply Kd.R_drew)); exact Kd.R_mono HO_18.out (fun _ hk => ⟨hk.1.1, ⟨hk.1.2.1, ⟨hk.1.2.2.1, ⟨hk.1.2.2.2, hk.2⟩⟩⟩⟩)))
               (case aS => exact (below_size (qdk9_4 HB GE352 GE361 GE384)))
               (case aL => have := LMc130.out; omega)
               intro v415 w137 ho hb hg hat
               rw [← Ny414.out] at ho
               have n0_ := Aside0.mk (Kd.R_after (ok := (fun k_ => some k_ ≠ (.slice Ao11 t342.length co11 : Value).ownBlock ∧ some k_ ≠ (.slice Ao16 t353.length co16 : Value).ownBlock ∧ some k_ ≠ (.slice Ao54 t376.length co54 : Value).ownBlock ∧ some k_ ≠ (.slice Ao138 y411.length co138 : Value).ownBlock)) (by (with_reducible repeat (first | apply Kd.R_alloc | apply Kd.R_drewN | apply Kd.R_drew)); exact Kd.R_mono HO_15.out (fun _ hk => ⟨⟨hk.1.2.1, ⟨hk.1.2.2.1, ⟨hk.1.2.2.2, hk.2⟩⟩⟩, hk.1.1⟩)) hg hat)
               have n1_ := Aside0.mk (Kd.R_after (ok := (fun k_ => some k_ ≠ (u15 : Value).ownBlock ∧ some k_ ≠ (.slice Ao16 t353.length co16 : Value).ownBlock ∧ some k_ ≠ (.slice Ao54 t376.length co54 : Value).ownBlock ∧ some k_ ≠ (.slice Ao138 y411.length co138 : Value).ownBlock)) (qdk9_25 HO_353000) hg hat)
               have n2_ := Aside0.mk (Kd.R_over' (qdk9_1 HO_353001) (Kd.R_typed (qdk9_1 HO_18)) (by decide) hg)
               have n3_ := Aside0.mk (Kd.R_after (ok := (fun k_ => some k_ ≠ (u15 : Value).ownBlock ∧ some k_ ≠ (.slice Ao11 t342.length co11 : Value).ownBlock ∧ some k_ ≠ (.slice Ao54 t376.length co54 : Value).ownBlock ∧ some k_ ≠ (.slice Ao138 y411.length co138 : Value).ownBlock)) (qdk9_25 HO_362000) hg hat)
               have n4_ := Aside0.mk (Kd.R_over' (qdk9_1 HO_362001) (Kd.R_typed (qdk9_1 HO_18)) (by decide) hg)
               have n5_ := Aside0.mk (Kd.R_after (ok := (fun k_ => some k_ ≠ (u15 : Value).ownBlock ∧ some k_ ≠ (.slice Ao11 t342.length co11 : Value).ownBlock ∧ some k_ ≠ (.slice Ao16 t353.length co16 : Value).ownBlock ∧ some k_ ≠ (.slice Ao138 y411.length co138 : Value).ownBlock)) (qdk9_25 HO_385000) hg hat)
               have n6_ := Aside0.mk (Kd.R_over' (qdk9_1 HO_385001) (Kd.R_typed (qdk9_1 HO_18)) (by decide) hg)
               have n7_ := Aside0.mk (blk_grown (g := gb352) (o := .cells #[.slice Ao11 t342.length co11, .slice Ao13 t345.length co13, .int .i64 t348] 25 (0, 0)) (qdk9_2 BK352) hg (Kd.R_ne HO_18.out BK352.out (by decide)))
               have n8_ := Aside0.mk (blk_grown (g := gb361) (o := .cells #[.slice Ao16 t353.length co16, .slice Ao19 t356.length co19, .int .i64 t359] 25 (0, 0)) (qdk9_2 BK361) hg (Kd.R_ne HO_18.out BK361.out (by decide)))
               have n9_ := Aside0.mk (blk_grown (g := gb384) (o := .cells #[.slice Ao54 t376.length co54, .slice (some ad408) t379.length co58, .int .i64 t382] 25 (0, 0)) (qdk9_2 BK384) hg (Kd.R_ne HO_18.out BK384.out (by decide)))
               have n10_ := Aside0.mk (Kd.R_after (ok := (fun k_ => some k_ ≠ (u15 : Value).ownBlock ∧ some k_ ≠ (.slice Ao11 t342.length co11 : Value).ownBlock ∧ some k_ ≠ (.slice Ao16 t353.length co16 : Value).ownBlock ∧ some k_ ≠ (.slice Ao54 t376.length co54 : Value).ownBlock)) (by (with_reducible repeat (first | apply Kd.R_alloc | apply Kd.R_drewN | apply Kd.R_drew)); exact Kd.R_mono HO413.out (fun _ hk => ⟨⟨hk.1.1.1.1.2, ⟨hk.1.1.2, ⟨hk.1.2, hk.2⟩⟩⟩, hk.1.1.1.2⟩)) hg hat)
               have n11_ := Aside0.mk (hb)
               have n12_ := Aside0.mk (ho)
               clear HO_15 HO_353000 HO_353001 HO_362000 HO_362001 HO_385000 HO_385001 BK352 BK361 BK384 HO413 HB HO_18
               have HO_15 := n0_
               have HO_353000 := n1_
               have HO_353001 := n2_
               have HO_362000 := n3_
               have HO_362001 := n4_
               have HO_385000 := n5_
               have HO_385001 := n6_
               have BK352 := n7_
               have BK361 := n8_
               have BK384 := n9_
               have HO413 := n10_
               have HB := n11_
               have HO416 := n12_
               clear n0_ n1_ n2_ n3_ n4_ n5_ n6_ n7_ n8_ n9_ n10_ n11_ n12_ ho hb hg hat
               refine hK.out _ _ ?_
               clear hK K
               refine norm_ (a' := ?_) ?_ ?_
               rotate_left
               ·show Act.put _ (some 177) _ = _
                simp only [Act.put, List.setIfInBounds_toArray, List.set_cons_zero, List.set_cons_succ, i64_w, i32_w]
                rfl
               refine pure_ (i := 15) (N := some 18) (bs_ 16 65535) rfl rfl (any_of HT_.out qdk9_26) (fun _ _ _ h => h) (Or.inl ⟨by rfl, qpy_pdkx9⟩) qpa_pdkx9 ?_
               refine done_ (done_of HT_.out qdk9_26) ?_
               try go_wp2
               go_roundg k5
               case measure => have := HJ7.out; have := HJ35.out; have := HJ48.out; have := HK4.out; have := HK5.out; omega
               case rel => exact ⟨(y414), (wrap64 (x19_5 + 1)), qdk9_22, H', ⟨(by have := HJ7.out; have := HJ35.out; have := HJ48.out; have := HK4.out; have := HK5.out; omega)⟩, ⟨(by (with_reducible repeat (first | apply Kd.R_alloc | apply Kd.R_drewN | apply Kd.R_drew)); exact Kd.R_mono HO_15.out (fun _ hk => ⟨hk.2, ⟨hk.1.1, ⟨hk.1.2.1, hk.1.2.2.1⟩⟩⟩))⟩, ⟨(by (with_reducible repeat (first | apply Kd.R_alloc | apply Kd.R_drewN | apply Kd.R_drew)); exact Kd.R_mono HO416.out (fun _ hk => ⟨hk.1, ⟨hk.2.1, ⟨hk.2.2.1, hk.2.2.2.1⟩⟩⟩))⟩, ⟨(rdk9_15 HO_353000)⟩, ⟨(rdk9_2 HO_353001)⟩, ⟨(rdk9_15 HO_362000)⟩, ⟨(rdk9_2 HO_362001)⟩, ⟨(rdk9_15 HO_385000)⟩, ⟨(rdk9_2 HO_385001)⟩, ⟨(rdk9_1 BK352)⟩, ⟨(rdk9_1 BK361)⟩, ⟨(rdk9_1 BK384)⟩, ⟨(rdk9_7 HB GE352 GE361 GE384)⟩⟩
              rw [if_neg c130] at H
              exact absurd H (by simp)
             rw [if_neg c124] at H
             exact absurd H (by simp)
            rw [if_neg c123] at H
            have c123b0 : decide (x19_5 < (t379.length : Int)) = false := decide_eq_false c123
            clear c123
            replace H := Option.bind_eq_some_iff.mp H
            obtain ⟨t417, A1390, H⟩ := H
            replace H : (some t417) = some r := H
            have A139 := Aside0.mk A1390
            clear A1390
            obtain rfl := Option.some.inj H
            have hnb140 := NB384_352.out
            have hnc140 := NB352_384.out
            have hnb141 := NB384_361.out
            have hnc141 := NB361_384.out
            have hcz142_0 : wr.cell? ⟨gb384, 0, none⟩ = some (.slice Ao54 t376.length co54) := (blk_cell BK384.out 0).trans rfl
            have hcz142_1 : wr.cell? ⟨gb384, 1, none⟩ = some (.slice Ao58 t379.length co58) := (blk_cell BK384.out 1).trans rfl
            have hcz142_2 : wr.cell? ⟨gb384, 2, none⟩ = some (.int .i64 t382) := (blk_cell BK384.out 2).trans rfl
            have hfz142_0 := blk_frozen BK384.out 0
            have hfz142_1 := blk_frozen BK384.out 1
            have hfz142_2 := blk_frozen BK384.out 2
            obtain ⟨Ao143, co143, eo143⟩ := Kd.R_slice HO_15.out
            subst eo143
            obtain ⟨Ao144, co144, eo144⟩ := Kd.R_slice HO_18.out
            subst eo144
            go_wp2_with (first | ((with_reducible refine gate_callee (f := 37) rfl ?_); refine goesL_ (some 180) rfl rfl Try.func37 qdk9_26 rfl #[.slice Ao143 x15_4.length co143, .slice Ao144 x18_5.length co144] rfl qdk9_14 ?_; (with_reducible refine (laws_sameInts.calls k5 _ _ x15_4 _ _ x18_5 t417 _ ?side1 ?side2 ?side3 ?side4 A139.out).mono ?_); (case side1 => exact (qdk9_9 HO_15)); (case side2 => exact (Kd.R_reads' HO_15.out).2.1); (case side3 => exact (qdk9_9 HO_18)); (case side4 => exact (Kd.R_reads' HO_18.out).2.1); rintro e w' ⟨rfl, ⟨nd, rfl⟩⟩; refine ⟨_, rfl, ?_⟩))
            go_ret
            exact ⟨(by first | rfl | (simp [errW_none, errW_some] <;> rfl) | (simp [*, errW_none, errW_some] <;> rfl)), (rdk9_7 HB GE352 GE361 GE384)⟩
 replace c7 := Bool.eq_false_iff.mpr c7
 subst c7
 have H1 : (if t360 = true then (none) else (if (t353.length : Int) = 0 then ((impl_NewDict.f k).bind fun bt363 => ((impl_DictOk.f bt363.1 bt363.2.1 bt363.2.2).bind fun t370 => (some t370))) else (none))) = some r := by rw [if_neg (show ¬ (false = true) by decide)] at H; exact H
 clear H
 have H := H1
 clear H1
 by_cases c145 : t360 = true
 ·subst c145
  have H1 : (none) = some r := by rw [if_pos rfl] at H; exact H
  clear H
  have H := H1
  clear H1
  exact absurd H (by simp)
 replace c145 := Bool.eq_false_iff.mpr c145
 subst c145
 have H1 : (if (t353.length : Int) = 0 then ((impl_NewDict.f k).bind fun bt363 => ((impl_DictOk.f bt363.1 bt363.2.1 bt363.2.2).bind fun t370 => (some t370))) else (none)) = some r := by rw [if_neg (show ¬ (false = true) by decide)] at H; exact H
 clear H
 have H := H1
 clear H1
 by_cases c146 : (t353.length : Int) = 0
 ·rw [if_pos c146] at H
  have c146b0 : ((t353.length : Int) == 0) = true := beq_iff_eq.mpr c146
  have c146b1 : ((t353.length : Int) != 0) = false := bne_eq_false_iff_eq.mpr c146
  clear c146
  replace H := Option.bind_eq_some_iff.mp H
  obtain ⟨⟨t363, t366, t369⟩, A1470, H⟩ := H
  replace H : ((impl_DictOk.f t363 t366 t369).bind fun t370 => (some t370)) = some r := H
  have A147 := Aside0.mk A1470
  clear A1470
  replace H := Option.bind_eq_some_iff.mp H
  obtain ⟨t370, A1480, H⟩ := H
  replace H : (some t370) = some r := H
  have A148 := Aside0.mk A1480
  clear A1480
  obtain rfl := Option.some.inj H
  go_enter Try.func9, Try.ntmps9
  go_wp2_with (first | ((with_reducible refine gate_callee (f := 16) rfl ?_); refine goesL_ (some 21) rfl rfl Try.func16 qdk9_26 rfl #[.slice A0 l0.length c0] rfl qdk9_14 ?_; (with_reducible refine (laws_big.calls _ _ l0 false _ ?side1 ?side2 A2.out).mono ?_); (case side1 => exact (qdk9_23 HR0)); (case side2 => exact HC0.out); rintro e w' ⟨rfl, ⟨nd, rfl⟩⟩; refine ⟨_, rfl, ?_⟩) | ((with_reducible refine gate_callee (f := 35) rfl ?_); refine goesL_ (some 24) rfl rfl Try.func35 qdk9_26 rfl #[.slice A0 l0.length c0] rfl qdk9_14 ?_; (with_reducible refine (spec_DrawDictPut.calls k _ _ l0 t342 t345 t348 t349 t350 t351 _ ?side1 ?side2 A4.out).mono ?_); (case side1 => exact (qdk9_23 HR0)); (case side2 => exact HC0.out); rintro e w149 ⟨v343, v346, rfl, ho0, ho1, hb⟩; refine ⟨_, rfl, ?_⟩; have n0_ := Aside0.mk (Kd.R_lower ho0 (below_size (qdk9_18 HB))); have n1_ := Aside0.mk (Kd.R_lower ho1 (below_size (qdk9_18 HB))); have n2_ := Aside0.mk (below_step (qdk9_18 HB) hb); clear HB; have HO344 := n0_; have HO347 := n1_; have HB := n2_; clear n0_ n1_ n2_; (try clear hb); (try clear hb2); (try clear hk); (try clear hi); (try clear ho0); (try clear ho1)) | ((with_reducible refine gate_dst (N := 3) rfl ?_); (try (refine gate_guard (by rfl) ?_; dsimp only)); refine box_event ?hg (N := 3) ?hd (cs := #[.slice none 0 0, .slice none 0 0, .int .i64 0]) (t := 25) ?hr ?_; (case hd => rfl); (case hg => rfl); (case hr => exact qdk9_24); intro gb352 hg w150 hbox hb; have n0_ := Aside0.mk (Kd.R_below (qdk9_1 HO344) hb); have n1_ := Aside0.mk (Kd.R_below (qdk9_1 HO347) hb); have n2_ := Aside0.mk (below_step (qdk9_18 HB) hb); have n3_ := Aside0.mk (hbox); have n4_ := Aside0.mk ((by rw [hg]; exact (below_size (qdk9_18 HB)) : w.heap.size ≤ gb352)); have n5_ := Aside0.mk ((by rw [hg]; exact (below_size (qdk9_18 HB)) : w.heap.size ≤ gb352)); clear HO344 HO347 HB; have HO344 := n0_; have HO347 := n1_; have HB := n2_; have BK352 := n3_; have GW352 := n4_; have GE352 := n5_; clear n0_ n1_ n2_ n3_ n4_ n5_; clear hb hbox hg; obtain ⟨Ao151, co151, eo151⟩ := Kd.R_slice HO344.out; subst eo151; have hcz152_0 : w150.cell? ⟨gb352, 0, none⟩ = some (.slice none 0 0) := (blk_cell BK352.out 0).trans rfl; have hcz152_1 : w150.cell? ⟨gb352, 1, none⟩ = some (.slice none 0 0) := (blk_cell BK352.out 1).trans rfl; have hcz152_2 : w150.cell? ⟨gb352, 2, none⟩ = some (.int .i64 0) := (blk_cell BK352.out 2).trans rfl; have hfz152_0 := blk_frozen BK352.out 0; have hfz152_1 := blk_frozen BK352.out 1; have hfz152_2 := blk_frozen BK352.out 2; obtain ⟨Ao153, co153, eo153⟩ := Kd.R_slice HO347.out; subst eo153) | ((with_reducible refine gate_callee (f := 36) rfl ?_); refine goesL_ (some 34) rfl rfl Try.func36 qdk9_26 rfl #[.agg #[.slice Ao151 t342.length co151, .slice Ao153 t345.length co153, .int .i64 t348], .int .u64 t349, .int .i64 t350, .int .i64 t351] rfl qdk9_14 ?_; (with_reducible refine (impl_DictPut.calls _ _ t342 _ _ t345 t348 t349 t350 t351 t353 t356 t359 false _ ?side1 ?side2 ?side3 ?side4 A5.out).mono ?_); (case side1 => exact (by refine (Kd.R_reads' (e := 2) (base := w.heap.size) (ok := fun k_ => True) (n := t342.length) (c := co151) ?_).2.2; exact (qdk9_10 HO344 BK352))); (case side2 => exact (Kd.R_reads' HO344.out).2.1); (case side3 => exact (by refine (Kd.R_reads' (e := 62) (base := w.heap.size) (ok := fun k_ => True) (n := t345.length) (c := co153) ?_).2.2; exact (qdk9_10 HO347 BK352))); (case side4 => exact (Kd.R_reads' HO347.out).2.1); rintro e w154 ⟨v354, v357, rfl, ho0, ho1, hb⟩; refine ⟨_, rfl, ?_⟩; have n0_ := Aside0.mk (Kd.R_elder' (qdk9_10 HO344 BK352) (Kd.R_base ho0) hb); have n1_ := Aside0.mk (Kd.R_elder' (qdk9_10 HO347 BK352) (Kd.R_base ho1) hb); have n2_ := Aside0.mk (Kd.R_lower (Kd.R_new' ho0 (Kd.R_lt (qdk9_10 HO344 BK352))) (below_size (qdk9_15 HB GE352))); have n3_ := Aside0.mk (Kd.R_lower (Kd.R_new' ho1 (Kd.R_lt (qdk9_10 HO347 BK352))) (below_size (qdk9_15 HB GE352))); have n4_ := Aside0.mk (blk_below (g := gb352) (o := .cells #[.slice Ao151 t342.length co151, .slice Ao153 t345.length co153, .int .i64 t348] 25 (0, 0)) (by (with_reducible repeat (first | refine blk_drewN ?_ _ | refine blk_drew ?_ | refine blk_alloc ?_ _)); refine blk_put (cs := #[.slice Ao151 t342.length co151, .slice Ao153 t345.length co153, .int .i64 0]) ?_ 2 _ rfl; (with_reducible repeat (first | refine blk_drewN ?_ _ | refine blk_drew ?_ | refine blk_alloc ?_ _)); refine blk_put (cs := #[.slice Ao151 t342.length co151, .slice none 0 0, .int .i64 0]) ?_ 1 _ rfl; (with_reducible repeat (first | refine blk_drewN ?_ _ | refine blk_drew ?_ | refine blk_alloc ?_ _)); refine blk_put (cs := #[.slice none 0 0, .slice none 0 0, .int .i64 0]) ?_ 0 _ rfl; (with_reducible repeat (first | refine blk_drewN ?_ _ | refine blk_drew ?_ | refine blk_alloc ?_ _)); exact BK352.out) hb); have n5_ := Aside0.mk (below_step (qdk9_15 HB GE352) hb); clear HO344 HO347 BK352 HB; have HO344 := n0_; have HO347 := n1_; have HO355 := n2_; have HO358 := n3_; have BK352 := n4_; have HB := n5_; clear n0_ n1_ n2_ n3_ n4_ n5_; (try clear hb); (try clear hb2); (try clear hk); (try clear hi); (try clear ho0); (try clear ho1)) | ((with_reducible refine gate_dst (N := 7) rfl ?_); (try (refine gate_guard (by rfl) ?_; dsimp only)); refine box_event ?hg (N := 7) ?hd (cs := #[.slice none 0 0, .slice none 0 0, .int .i64 0]) (t := 25) ?hr ?_; (case hd => rfl); (case hg => rfl); (case hr => exact qdk9_24); intro gb361 hg w155 hbox hb; have n0_ := Aside0.mk (Kd.R_below (qdk9_1 HO344) hb); have n1_ := Aside0.mk (Kd.R_below (qdk9_1 HO347) hb); have n2_ := Aside0.mk (Kd.R_below (qdk9_1 HO355) hb); have n3_ := Aside0.mk (Kd.R_below (qdk9_1 HO358) hb); have n4_ := Aside0.mk (blk_below (g := gb352) (o := .cells #[.slice Ao151 t342.length co151, .slice Ao153 t345.length co153, .int .i64 t348] 25 (0, 0)) (qdk9_2 BK352) hb); have n5_ := Aside0.mk (below_step (qdk9_15 HB GE352) hb); have n6_ := Aside0.mk (hbox); have n7_ := Aside0.mk ((by rw [hg]; exact (below_size (qdk9_15 HB GE352)) : w.heap.size ≤ gb361)); have n8_ := Aside0.mk ((by rw [hg]; exact (below_size (qdk9_15 HB GE352)) : w.heap.size ≤ gb361)); have n9_ := Aside0.mk ((qnl_pdkx9 BK352 hg : gb352 ≠ gb361)); have n10_ := Aside0.mk ((qng_pdkx9 BK352 hg : gb361 ≠ gb352)); clear HO344 HO347 HO355 HO358 BK352 HB; have HO344 := n0_; have HO347 := n1_; have HO355 := n2_; have HO358 := n3_; have BK352 := n4_; have HB := n5_; have BK361 := n6_; have GW361 := n7_; have GE361 := n8_; have NB352_361 := n9_; have NB361_352 := n10_; clear n0_ n1_ n2_ n3_ n4_ n5_ n6_ n7_ n8_ n9_ n10_; clear hb hbox hg; obtain ⟨Ao156, co156, eo156⟩ := Kd.R_slice HO355.out; subst eo156; have hnb157 := NB361_352.out; have hnc157 := NB352_361.out; have hcz158_0 : w155.cell? ⟨gb361, 0, none⟩ = some (.slice none 0 0) := (blk_cell BK361.out 0).trans rfl; have hcz158_1 : w155.cell? ⟨gb361, 1, none⟩ = some (.slice none 0 0) := (blk_cell BK361.out 1).trans rfl; have hcz158_2 : w155.cell? ⟨gb361, 2, none⟩ = some (.int .i64 0) := (blk_cell BK361.out 2).trans rfl; have hfz158_0 := blk_frozen BK361.out 0; have hfz158_1 := blk_frozen BK361.out 1; have hfz158_2 := blk_frozen BK361.out 2; obtain ⟨Ao159, co159, eo159⟩ := Kd.R_slice HO358.out; subst eo159; have hcz160_0 : w155.cell? ⟨gb352, 0, none⟩ = some (.slice Ao151 t342.length co151) := (blk_cell BK352.out 0).trans rfl; have hcz160_1 : w155.cell? ⟨gb352, 1, none⟩ = some (.slice Ao153 t345.length co153) := (blk_cell BK352.out 1).trans rfl; have hcz160_2 : w155.cell? ⟨gb352, 2, none⟩ = some (.int .i64 t348) := (blk_cell BK352.out 2).trans rfl; have hfz160_0 := blk_frozen BK352.out 0; have hfz160_1 := blk_frozen BK352.out 1; have hfz160_2 := blk_frozen BK352.out 2) | ((with_reducible refine gate_callee (f := 20) rfl ?_); refine goesL_ (some 38) rfl rfl Try.func20 qdk9_26 rfl #[.agg #[.slice Ao151 t342.length co151, .slice Ao153 t345.length co153, .int .i64 t348]] rfl qdk9_14 ?_; (with_reducible refine (spec_DictOk.calls k _ _ t342 _ _ t345 t348 false _ ?side1 ?side2 ?side3 ?side4 A6.out).mono ?_); (case side1 => exact (by refine (Kd.R_reads' (e := 2) (base := w.heap.size) (ok := fun k_ => (True ∧ some k_ ≠ (.slice Ao156 t353.length co156 : Value).ownBlock)) (n := t342.length) (c := co151) ?_).2.2; exact (qdk9_11 HO344 BK361))); (case side2 => exact (Kd.R_reads' HO344.out).2.1); (case side3 => exact (by refine (Kd.R_reads' (e := 62) (base := w.heap.size) (ok := fun k_ => (True ∧ some k_ ≠ (.slice Ao159 t356.length co159 : Value).ownBlock)) (n := t345.length) (c := co153) ?_).2.2; exact (qdk9_11 HO347 BK361))); (case side4 => exact (Kd.R_reads' HO347.out).2.1); rintro e w161 ⟨rfl, hb⟩; refine ⟨_, rfl, ?_⟩; have n0_ := Aside0.mk (Kd.R_below (qdk9_11 HO344 BK361) hb); have n1_ := Aside0.mk (Kd.R_below (qdk9_11 HO347 BK361) hb); have n2_ := Aside0.mk (Kd.R_below (qdk9_11 HO355 BK361) hb); have n3_ := Aside0.mk (Kd.R_below (qdk9_11 HO358 BK361) hb); have n4_ := Aside0.mk (blk_below (g := gb352) (o := .cells #[.slice Ao151 t342.length co151, .slice Ao153 t345.length co153, .int .i64 t348] 25 (0, 0)) (qdk9_16 NB352_361 BK352) hb); have n5_ := Aside0.mk (blk_below (g := gb361) (o := .cells #[.slice Ao156 t353.length co156, .slice Ao159 t356.length co159, .int .i64 t359] 25 (0, 0)) (by (with_reducible repeat (first | refine blk_drewN ?_ _ | refine blk_drew ?_ | refine blk_alloc ?_ _)); refine blk_put (cs := #[.slice Ao156 t353.length co156, .slice Ao159 t356.length co159, .int .i64 0]) ?_ 2 _ rfl; (with_reducible repeat (first | refine blk_drewN ?_ _ | refine blk_drew ?_ | refine blk_alloc ?_ _)); refine blk_put (cs := #[.slice Ao156 t353.length co156, .slice none 0 0, .int .i64 0]) ?_ 1 _ rfl; (with_reducible repeat (first | refine blk_drewN ?_ _ | refine blk_drew ?_ | refine blk_alloc ?_ _)); refine blk_put (cs := #[.slice none 0 0, .slice none 0 0, .int .i64 0]) ?_ 0 _ rfl; (with_reducible repeat (first | refine blk_drewN ?_ _ | refine blk_drew ?_ | refine blk_alloc ?_ _)); exact BK361.out) hb); have n6_ := Aside0.mk (below_step (qdk9_8 HB GE352 GE361) hb); clear HO344 HO347 HO355 HO358 BK352 BK361 HB; have HO344 := n0_; have HO347 := n1_; have HO355 := n2_; have HO358 := n3_; have BK352 := n4_; have BK361 := n5_; have HB := n6_; clear n0_ n1_ n2_ n3_ n4_ n5_ n6_; (try clear hb); (try clear hb2); (try clear hk); (try clear hi); have hcz162_0 : w161.cell? ⟨gb361, 0, none⟩ = some (.slice Ao156 t353.length co156) := (blk_cell BK361.out 0).trans rfl; have hcz162_1 : w161.cell? ⟨gb361, 1, none⟩ = some (.slice Ao159 t356.length co159) := (blk_cell BK361.out 1).trans rfl; have hcz162_2 : w161.cell? ⟨gb361, 2, none⟩ = some (.int .i64 t359) := (blk_cell BK361.out 2).trans rfl; have hfz162_0 := blk_frozen BK361.out 0; have hfz162_1 := blk_frozen BK361.out 1; have hfz162_2 := blk_frozen BK361.out 2) | (go_at_call 12; (with_reducible refine (impl_NewDict.calls k  t363 t366 t369 _ A147.out).mono ?_); rintro e w163 ⟨v364, v367, rfl, ho0, ho1, hb⟩; have n0_ := Aside0.mk (Kd.R_elder' (qdk9_1 HO344) (Kd.R_base ho0) hb); have n1_ := Aside0.mk (Kd.R_elder' (qdk9_1 HO347) (Kd.R_base ho1) hb); have n2_ := Aside0.mk (Kd.R_elder' (qdk9_1 HO355) (Kd.R_base ho0) hb); have n3_ := Aside0.mk (Kd.R_elder' (qdk9_1 HO358) (Kd.R_base ho1) hb); have n4_ := Aside0.mk (Kd.R_lower (Kd.R_new' (Kd.R_new' ho0 (Kd.R_lt (qdk9_1 HO344))) (Kd.R_lt (qdk9_1 HO355))) (below_size (qdk9_8 HB GE352 GE361))); have n5_ := Aside0.mk (Kd.R_lower (Kd.R_new' (Kd.R_new' ho1 (Kd.R_lt (qdk9_1 HO347))) (Kd.R_lt (qdk9_1 HO358))) (below_size (qdk9_8 HB GE352 GE361))); have n6_ := Aside0.mk (blk_below (g := gb352) (o := .cells #[.slice Ao151 t342.length co151, .slice Ao153 t345.length co153, .int .i64 t348] 25 (0, 0)) (qdk9_2 BK352) hb); have n7_ := Aside0.mk (blk_below (g := gb361) (o := .cells #[.slice Ao156 t353.length co156, .slice Ao159 t356.length co159, .int .i64 t359] 25 (0, 0)) (qdk9_2 BK361) hb); have n8_ := Aside0.mk (below_step (qdk9_8 HB GE352 GE361) hb); clear HO344 HO347 HO355 HO358 BK352 BK361 HB; have HO344 := n0_; have HO347 := n1_; have HO355 := n2_; have HO358 := n3_; have HO365 := n4_; have HO368 := n5_; have BK352 := n6_; have BK361 := n7_; have HB := n8_; clear n0_ n1_ n2_ n3_ n4_ n5_ n6_ n7_ n8_; (try clear hb); (try clear hb2); (try clear hk); (try clear hi); (try clear ho0); (try clear ho1); obtain ⟨Ao164, co164, eo164⟩ := Kd.R_slice HO365.out; subst eo164; obtain ⟨Ao165, co165, eo165⟩ := Kd.R_slice HO368.out; subst eo165) | (go_at_call 22; (with_reducible refine (impl_DictOk.calls _ _ t363 _ _ t366 t369 t370 _ ?side1 ?side2 ?side3 ?side4 A148.out).mono ?_); (case side1 => exact (qdk9_9 HO365)); (case side2 => exact (Kd.R_reads' HO365.out).2.1); (case side3 => exact (qdk9_9 HO368)); (case side4 => exact (Kd.R_reads' HO368.out).2.1); rintro e w166 ⟨rfl, hb⟩; have n0_ := Aside0.mk (Kd.R_below (qdk9_1 HO344) hb); have n1_ := Aside0.mk (Kd.R_below (qdk9_1 HO347) hb); have n2_ := Aside0.mk (Kd.R_below (qdk9_1 HO355) hb); have n3_ := Aside0.mk (Kd.R_below (qdk9_1 HO358) hb); have n4_ := Aside0.mk (Kd.R_below (qdk9_1 HO365) hb); have n5_ := Aside0.mk (Kd.R_below (qdk9_1 HO368) hb); have n6_ := Aside0.mk (blk_below (g := gb352) (o := .cells #[.slice Ao151 t342.length co151, .slice Ao153 t345.length co153, .int .i64 t348] 25 (0, 0)) (qdk9_2 BK352) hb); have n7_ := Aside0.mk (blk_below (g := gb361) (o := .cells #[.slice Ao156 t353.length co156, .slice Ao159 t356.length co159, .int .i64 t359] 25 (0, 0)) (qdk9_2 BK361) hb); have n8_ := Aside0.mk (below_step (qdk9_8 HB GE352 GE361) hb); clear HO344 HO347 HO355 HO358 HO365 HO368 BK352 BK361 HB; have HO344 := n0_; have HO347 := n1_; have HO355 := n2_; have HO358 := n3_; have HO365 := n4_; have HO368 := n5_; have BK352 := n6_; have BK361 := n7_; have HB := n8_; clear n0_ n1_ n2_ n3_ n4_ n5_ n6_ n7_ n8_; (try clear hb); (try clear hb2); (try clear hk); (try clear hi)))
  go_ret
  exact ⟨(by first | rfl | (simp [errW_none, errW_some] <;> rfl) | (simp [*, errW_none, errW_some] <;> rfl)), (rdk9_10 HB GE352 GE361)⟩
 rw [if_neg c146] at H
 exact absurd H (by simp)

/-- THE ONE PURE STATEMENT of laws_FnDictKept: yours. -/
def laws_FnDictKept.Pure : Prop := ∀ (l0 : List Int), l0.length ≤ maxLen → l0.length * 1 ≤ 140737488351232 → (∀ x ∈ l0, (Lit.int .u8 x).wf = true) → ∃ k, laws_FnDictKept.f k l0 = some true
theorem laws_FnDictKept.walk (P : laws_FnDictKept.Pure) (a0 : Option Addr) (len0 cap0 : Nat) (z0 : List Int) (w : World) (w0 : (a0 = none ∧ len0 = 0 ∧ cap0 = 0 ∧ z0 = []) ∨ ∃ x, a0 = some x ∧ len0 ≤ cap0 ∧ cap0 ≤ maxLen ∧ z0.length = cap0 ∧ (∀ i, i < z0.length → w.cell? (x.add i) = some (.int .u8 (z0.getD i 0))) ∧ ∀ n ∈ z0, (Lit.int .u8 n).wf = true) (y0 : len0 * 1 ≤ 140737488351232) :
  Calls Try.prog 9 #[.slice a0 len0 cap0] w fun e w' => e = .returned (.bool true) ∧ Below w.heap.size w w' := by
 obtain ⟨l0, rfl, hr0, hm0, hw0, hc0⟩ := ReadsInt.ofRowC w0
 obtain ⟨k, h⟩ := P l0 hm0 y0 hw0
 refine (laws_FnDictKept.calls k _ _ l0 true w (Kd.C_of_reads (d := (0 : Int)) (h1 := fun _ => rfl) hr0) hc0 h).mono ?_
 rintro e w' ⟨rfl, hd⟩
 exact ⟨rfl, hd⟩

end Go.Proofs.Ytohilfkdfcihgaa.PDi
