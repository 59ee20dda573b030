/- Go functions as Lean functions, and that each Go function comes to just that; printed by a program of this session (gprint.py over the kit's print.py). No condition. -/
import Derived.Test.YtohilfkdfcihgaaPDky0
import Derived.Test.YtohilfkdfcihgaaPDkx1
import Derived.Test.YtohilfkdfcihgaaPDkx6
namespace Go.Proofs.Ytohilfkdfcihgaa.PDi
open Go.RowKit Go.Proofs.YtohilfkdfcihgaaW.PrintWords Go.Proofs.YtohilfkdfcihgaaW.PrintLast Go.Proofs.YtohilfkdfcihgaaW.PrintMore
attribute [local go_sem] max2_int min2_int max_two min_two max_three min_three max_four min_four   -- for this text's walks alone
set_option linter.unusedVariables false
set_option linter.unusedSimpArgs false
theorem hbc_pdkx7 {w w1 : World} {a : Addr} {v : Value} (hb : Below w.heap.size w w1) (h : w.cell? a = some v) : w1.cell? a = some v := (hb.cell (World.block_lt_of_cell? _ _ h)).trans h
theorem qpa_pdkx7 {P : Prop} (h : P := by simp only [Act.put, List.setIfInBounds_toArray, List.set_cons_zero, List.set_cons_succ, i64_w, i32_w]; rfl) : P := h
theorem qnl_pdkx7 {w : World} {g n : Nat} {cs : Array Value} {t : TypeId} {fr : Nat × Nat} {Q : Prop} (y : Q) (hg : n = w.heap.size) (h : Q → w.heap[g]? = some (.cells cs t fr) := by intro y_; (with_reducible repeat (first | refine blk_drewN ?_ _ | refine blk_drew ?_ | refine blk_alloc ?_ _)); exact y_.out) : g ≠ n := by
  rw [hg]; exact Nat.ne_of_lt (blk_lt (h y))
theorem qng_pdkx7 {w : World} {g n : Nat} {cs : Array Value} {t : TypeId} {fr : Nat × Nat} {Q : Prop} (y : Q) (hg : n = w.heap.size) (h : Q → w.heap[g]? = some (.cells cs t fr) := by intro y_; (with_reducible repeat (first | refine blk_drewN ?_ _ | refine blk_drew ?_ | refine blk_alloc ?_ _)); exact y_.out) : n ≠ g := by
  rw [hg]; exact Nat.ne_of_gt (blk_lt (h y))
theorem qpy_pdkx7 {P : Prop} (h : P := by intro w'; go_simp; with_reducible rfl) : P := h
theorem qpt7_pdkx7 {P : Prop} (h : P := by rintro w' ⟨s0, s1, s2, s3, s4, s5, s6⟩; go_simp; with_reducible rfl) : P := h
theorem qpt4_pdkx7 {P : Prop} (h : P := by rintro w' ⟨s0, s1, s2, s3⟩; go_simp; with_reducible rfl) : P := h
theorem rdk7_1 {P Q0 Q1 : Prop} (y0 : Q0) (y1 : Q1) (h : Q0 → Q1 → P := by intro y0_ y1_; repeat (first | (with_reducible first | exact y0_.out | apply IsS94.alloc | apply IsS94.drewN | apply IsS94.drew | apply IsS94.set_1 | refine IsS94.far ?_ y1_.out _) | exact y0_.out)) : P := h y0 y1
theorem rdk7_2 {P Q0 Q1 Q2 : Prop} (y0 : Q0) (y1 : Q1) (y2 : Q2) (h : Q0 → Q1 → Q2 → P := by intro y0_ y1_ y2_; (with_reducible repeat (first | apply Kd.R_alloc | apply Kd.R_drewN | apply Kd.R_drew)); exact Kd.R_mono (Kd.R_far (p := ⟨gb328, 2, none⟩) (Kd.R_far (p := ⟨gb328, 1, none⟩) (Kd.R_far (p := ⟨gb328, 0, none⟩) (Kd.R_far (p := ⟨gb338, 2, none⟩) (Kd.R_far (p := ⟨gb338, 1, none⟩) (Kd.R_far (p := ⟨gb338, 0, none⟩) (Kd.R_types (Kd.R_types y0_.out y1_.out (by decide)) y2_.out (by decide)) (fun _ hk => hk.1.2) (.slice Ao6 t329.length co6)) (fun _ hk => hk.1.2) (.slice Ao9 t332.length co9)) (fun _ hk => hk.1.2) (.int .i64 t335)) (fun _ hk => hk.2) (.slice Ao6 t329.length co6)) (fun _ hk => hk.2) (.slice Ao9 t332.length co9)) (fun _ hk => hk.2) (.int .i64 t335)) (fun _ hk => trivial)) : P := h y0 y1 y2
theorem rdk7_3 {P Q0 Q1 : Prop} (y0 : Q0) (y1 : Q1) (h : Q0 → Q1 → P := by intro y0_ y1_; repeat (first | (with_reducible first | exact y0_.out | apply below_alloc | apply pw_below_drewN | apply below_drew1 | refine below_set ?_ (IsS94.ge y1_.out)) | exact y0_.out)) : P := h y0 y1
theorem rdk7_4 {P : Prop} (h : P := by first | rfl | (simp [errW_none, errW_some] <;> rfl) | (simp [*, errW_none, errW_some] <;> rfl)) : P := h
theorem rdk7_5 {P Q0 : Prop} (y0 : Q0) (h : Q0 → P := by intro y0_; repeat (first | (with_reducible first | exact y0_.out | apply IsS94.alloc | apply IsS94.drewN | apply IsS94.drew | apply IsS94.set_1) | exact y0_.out)) : P := h y0
theorem rdk7_6 {P Q0 : Prop} (y0 : Q0) (h : Q0 → P := by intro y0_; repeat (first | (with_reducible first | exact y0_.out | apply KeepBut.set_ | apply keep_drewN | apply keep_drew | apply keep_alloc) | exact y0_.out)) : P := h y0
theorem rdk7_7 {P Q0 Q1 Q2 Q3 : Prop} (y0 : Q0) (y1 : Q1) (y2 : Q2) (y3 : Q3) (h : Q0 → Q1 → Q2 → Q3 → P := by intro y0_ y1_ y2_ y3_; repeat (first | (with_reducible first | exact y0_.out | apply below_alloc | apply pw_below_drewN | apply below_drew1 | refine below_set ?_ (IsS94.ge y1_.out) | refine below_set ?_ y2_.out | refine below_set ?_ y3_.out) | exact y0_.out)) : P := h y0 y1 y2 y3
theorem rdk7_8 {P Q0 Q1 : Prop} (y0 : Q0) (y1 : Q1) (h : Q0 → Q1 → P := by intro y0_ y1_; (with_reducible repeat (first | apply Kd.R_alloc | apply Kd.R_drewN | apply Kd.R_drew)); exact Kd.R_mono (Kd.R_far (p := ⟨gb312, 2, none⟩) (Kd.R_far (p := ⟨gb312, 1, none⟩) (Kd.R_far (p := ⟨gb312, 0, none⟩) (Kd.R_types y0_.out y1_.out (by decide)) (fun _ hk => hk.2) (.slice Ao9 t316.length co9)) (fun _ hk => hk.2) (.slice Ao13 t319.length co13)) (fun _ hk => hk.2) (.int .i64 t322)) (fun _ hk => trivial)) : P := h y0 y1
theorem rdk7_9 {P Q0 Q1 Q2 : Prop} (y0 : Q0) (y1 : Q1) (y2 : Q2) (h : Q0 → Q1 → Q2 → P := by intro y0_ y1_ y2_; repeat (first | (with_reducible first | exact y0_.out | apply IsS94.alloc | apply IsS94.drewN | apply IsS94.drew | apply IsS94.set_1 | refine IsS94.far ?_ y1_.out _ | refine IsS94.far ?_ y2_.out _) | exact y0_.out)) : P := h y0 y1 y2
theorem rdk7_10 {P Q0 Q1 Q2 : Prop} (y0 : Q0) (y1 : Q1) (y2 : Q2) (h : Q0 → Q1 → Q2 → P := by intro y0_ y1_ y2_; repeat (first | (with_reducible first | exact y0_.out | apply below_alloc | apply pw_below_drewN | apply below_drew1 | refine below_set ?_ (IsS94.ge y1_.out) | refine below_set ?_ y2_.out) | exact y0_.out)) : P := h y0 y1 y2
theorem rdk7_11 {P Q0 Q1 : Prop} (y0 : Q0) (y1 : Q1) (h : Q0 → Q1 → P := by intro y0_ y1_; repeat (first | (with_reducible first | exact y0_.out | apply KeepBut.set_ | apply keep_drewN | apply keep_drew | apply keep_alloc | refine keep_far ?_ y1_.out _) | exact y0_.out)) : P := h y0 y1
theorem qdk7_1 {P Q0 : Prop} (y0 : Q0) (h : Q0 → P := by intro y0_; (with_reducible repeat (first | refine blk_drewN ?_ _ | refine blk_drew ?_ | refine blk_alloc ?_ _)); exact y0_.out) : P := h y0
theorem qdk7_2 {P : Prop} (h : P := by (try simp only [List.map_toArray, List.map_cons, List.map_nil]); first | done | rfl | (simp only [List.length_drop, List.length_take]; rfl)) : P := h
theorem qdk7_3 {P Q0 Q1 : Prop} (y0 : Q0) (y1 : Q1) (h : Q0 → Q1 → P := by intro y0_ y1_; repeat (first | (with_reducible first | exact y0_.out | apply KeepBut.set_ | apply keep_drewN | apply keep_drew | apply keep_alloc | refine keep_far ?_ y1_.out _) | exact y0_.out)) : P := h y0 y1
theorem qdk7_4 {P Q0 : Prop} (y0 : Q0) (h : Q0 → P := by intro y0_; repeat (first | (with_reducible first | exact y0_.out | apply KeepBut.set_ | apply keep_drewN | apply keep_drew | apply keep_alloc) | exact y0_.out)) : P := h y0
theorem qdk7_5 {P Q0 Q1 : Prop} (y0 : Q0) (y1 : Q1) (h : Q0 → Q1 → P := by intro y0_ y1_; (with_reducible repeat (first | apply Kd.R_alloc | apply Kd.R_drewN | apply Kd.R_drew)); exact (Kd.R_mono (Kd.R_far (p := ⟨gb324, 2, none⟩) (Kd.R_far (p := ⟨gb324, 1, none⟩) (Kd.R_far (p := ⟨gb324, 0, none⟩) (Kd.R_types y0_.out y1_.out (by decide)) (fun _ hk => hk.2) (.slice Ao9 t316.length co9)) (fun _ hk => hk.2) (.slice Ao13 t319.length co13)) (fun _ hk => hk.2) (.int .i64 t322)) (fun _ h_ => h_.1))) : P := h y0 y1
theorem qdk7_6 {P Q0 : Prop} (y0 : Q0) (h : Q0 → P := by intro y0_; repeat (first | (with_reducible first | exact y0_.out | apply below_alloc | apply pw_below_drewN | apply below_drew1 | refine below_set ?_ (IsS94.ge HI0.out)) | exact y0_.out)) : P := h y0
theorem qdk7_7 {P : Prop} (h : P := by repeat (first | (with_reducible first | exact HI0.out | apply IsS94.alloc | apply IsS94.drewN | apply IsS94.drew | apply IsS94.set_1) | exact HI0.out)) : P := h
theorem qdk7_8 {P Q0 : Prop} (y0 : Q0) (h : Q0 → P := by intro y0_; first | exact Nat.ne_of_lt (Nat.lt_of_lt_of_le hlt306_0 y0_.out) | (rw [add_block]; exact Nat.ne_of_lt (Nat.lt_of_lt_of_le hlt306_0 y0_.out)) | (show (Addr.add _ _).block ≠ _; rw [add_block]; exact Nat.ne_of_lt (Nat.lt_of_lt_of_le hlt306_0 y0_.out)) | (dsimp only; exact Nat.ne_of_lt (Nat.lt_of_lt_of_le hlt306_0 y0_.out))) : P := h y0
theorem qdk7_9 {P Q0 : Prop} (y0 : Q0) (h : Q0 → P := by intro y0_; first | exact Nat.ne_of_lt (Nat.lt_of_lt_of_le hlt306_1 y0_.out) | (rw [add_block]; exact Nat.ne_of_lt (Nat.lt_of_lt_of_le hlt306_1 y0_.out)) | (show (Addr.add _ _).block ≠ _; rw [add_block]; exact Nat.ne_of_lt (Nat.lt_of_lt_of_le hlt306_1 y0_.out)) | (dsimp only; exact Nat.ne_of_lt (Nat.lt_of_lt_of_le hlt306_1 y0_.out))) : P := h y0
theorem qdk7_10 {P Q0 : Prop} (y0 : Q0) (h : Q0 → P := by intro y0_; first | exact Nat.ne_of_lt (Nat.lt_of_lt_of_le hlt306_2 y0_.out) | (rw [add_block]; exact Nat.ne_of_lt (Nat.lt_of_lt_of_le hlt306_2 y0_.out)) | (show (Addr.add _ _).block ≠ _; rw [add_block]; exact Nat.ne_of_lt (Nat.lt_of_lt_of_le hlt306_2 y0_.out)) | (dsimp only; exact Nat.ne_of_lt (Nat.lt_of_lt_of_le hlt306_2 y0_.out))) : P := h y0
theorem qdk7_11 {P Q0 : Prop} (y0 : Q0) (h : Q0 → P := by intro y0_; first | exact Nat.ne_of_lt (Nat.lt_of_lt_of_le hlt306_3 y0_.out) | (rw [add_block]; exact Nat.ne_of_lt (Nat.lt_of_lt_of_le hlt306_3 y0_.out)) | (show (Addr.add _ _).block ≠ _; rw [add_block]; exact Nat.ne_of_lt (Nat.lt_of_lt_of_le hlt306_3 y0_.out)) | (dsimp only; exact Nat.ne_of_lt (Nat.lt_of_lt_of_le hlt306_3 y0_.out))) : P := h y0
theorem qdk7_12 {P Q0 Q1 : Prop} (y0 : Q0) (y1 : Q1) (h : Q0 → Q1 → P := by intro y0_ y1_; repeat (first | (with_reducible first | exact y0_.out | apply below_alloc | apply pw_below_drewN | apply below_drew1 | refine below_set ?_ (IsS94.ge HI315.out) | refine below_set ?_ y1_.out) | exact y0_.out)) : P := h y0 y1
theorem qdk7_13 {P Q0 Q1 : Prop} (y0 : Q0) (y1 : Q1) (h : Q0 → Q1 → P := by intro y0_ y1_; repeat (first | (with_reducible first | exact y0_.out | apply below_alloc | apply pw_below_drewN | apply below_drew1 | refine below_set ?_ (IsS94.ge HI0.out) | refine below_set ?_ y1_.out) | exact y0_.out)) : P := h y0 y1
theorem qdk7_14 {P Q0 : Prop} (y0 : Q0) (h : Q0 → P := by intro y0_; repeat (first | (with_reducible first | exact HI0.out | apply IsS94.alloc | apply IsS94.drewN | apply IsS94.drew | apply IsS94.set_1 | refine IsS94.far ?_ y0_.out _) | exact HI0.out)) : P := h y0
theorem qdk7_15 {P Q0 Q1 : Prop} (y0 : Q0) (y1 : Q1) (h : Q0 → Q1 → P := by intro y0_ y1_; repeat (first | (with_reducible first | exact y0_.out | apply below_alloc | apply pw_below_drewN | apply below_drew1 | refine below_set ?_ y1_.out) | exact y0_.out)) : P := h y0 y1
theorem qdk7_16 {P Q0 : Prop} (y0 : Q0) (h : Q0 → P := by intro y0_; (with_reducible repeat (first | refine blk_drewN ?_ _ | refine blk_drew ?_ | refine blk_alloc ?_ _)); refine blk_put (cs := #[.slice Ao9 t316.length co9, .slice Ao13 t319.length co13, .int .i64 0]) ?_ 2 _ rfl; (with_reducible repeat (first | refine blk_drewN ?_ _ | refine blk_drew ?_ | refine blk_alloc ?_ _)); refine blk_put (cs := #[.slice Ao9 t316.length co9, .slice none 0 0, .int .i64 0]) ?_ 1 _ rfl; (with_reducible repeat (first | refine blk_drewN ?_ _ | refine blk_drew ?_ | refine blk_alloc ?_ _)); refine blk_put (cs := #[.slice none 0 0, .slice none 0 0, .int .i64 0]) ?_ 0 _ rfl; (with_reducible repeat (first | refine blk_drewN ?_ _ | refine blk_drew ?_ | refine blk_alloc ?_ _)); exact y0_.out) : P := h y0
theorem qdk7_17 {P Q0 : Prop} (y0 : Q0) (h : Q0 → P := by intro y0_; repeat (first | (with_reducible first | exact y0_.out | apply below_alloc | apply pw_below_drewN | apply below_drew1) | exact y0_.out)) : P := h y0
theorem qdk7_18 {P : Prop} (h : P := by kernel_rfl) : P := h
theorem qdk7_19 {P Q0 : Prop} (y0 : Q0) (h : Q0 → P := by intro y0_; (with_reducible repeat (first | apply Kd.R_alloc | apply Kd.R_drewN | apply Kd.R_drew)); exact y0_.out) : P := h y0
theorem qdk7_20 {P Q0 Q1 : Prop} (y0 : Q0) (y1 : Q1) (h : Q0 → Q1 → P := by intro y0_ y1_; repeat (first | (with_reducible first | exact HI0.out | apply IsS94.alloc | apply IsS94.drewN | apply IsS94.drew | apply IsS94.set_1 | refine IsS94.far ?_ y0_.out _ | refine IsS94.far ?_ y1_.out _) | exact HI0.out)) : P := h y0 y1
theorem qdk7_21 {P Q0 Q1 Q2 : Prop} (y0 : Q0) (y1 : Q1) (y2 : Q2) (h : Q0 → Q1 → Q2 → P := by intro y0_ y1_ y2_; repeat (first | (with_reducible first | exact y0_.out | apply below_alloc | apply pw_below_drewN | apply below_drew1 | refine below_set ?_ (IsS94.ge HI0.out) | refine below_set ?_ y1_.out | refine below_set ?_ y2_.out) | exact y0_.out)) : P := h y0 y1 y2
theorem qdk7_22 {P Q0 Q1 Q2 : Prop} (y0 : Q0) (y1 : Q1) (y2 : Q2) (h : Q0 → Q1 → Q2 → P := by intro y0_ y1_ y2_; repeat (first | (with_reducible first | exact y0_.out | apply KeepBut.set_ | apply keep_drewN | apply keep_drew | apply keep_alloc | refine keep_far ?_ y1_.out _ | refine keep_far ?_ y2_.out _) | exact y0_.out)) : P := h y0 y1 y2
theorem qdk7_23 {P : Prop} (h : P := by first | (go_simp; done) | (go_simp; rfl)) : P := h
theorem qdk7_24 {P : Prop} (h : P := by first | rfl | (simp; done) | (simp [*]; done)) : P := h
def spec_l1Rd_word.l0 : Nat → Int → Int → List Int → Int → Option (Int × Int)
 | 0, _, _, _, _ => none
 | k + 1, x3, x4, x1000, x1001 => if x4 < 8 then ((spec_l1Rd_next.f x1000 x1001).bind fun bt287 => (spec_l1Rd_word.l0 k (Go.bits .or .u64 (IntKind.u64.wrap (x3 * 256)) (IntKind.u64.wrap (bt287.1))) (wrap64 (x4 + 1)) x1000 bt287.2)) else (some (x3, x1001))
def spec_l1Rd_word.f (k : Nat) (s0_0 : List Int) (s0_1 : Int) : Option (Int × Int) := spec_l1Rd_word.l0 k 0 0 s0_0 s0_1
set_option maxHeartbeats 8000000 in
set_option maxRecDepth 100000 in
theorem spec_l1Rd_word.calls (k : Nat) (g : Nat) (s0_0 : List Int) (s0_1 : Int) (r1 : Int) (r2 : Int) (w0 w : World) (hI : IsS94 w0 w g s0_0 s0_1) (hB : Below w0.heap.size w0 w) (h : spec_l1Rd_word.f k s0_0 s0_1 = some (r1, r2)) :
  Calls Try.prog 79 #[.pointer (some ⟨g, 0, none⟩)] w fun e w' => e = .returned (.int .u64 r1) ∧ IsS94 w0 w' g s0_0 r2 ∧ Below w0.heap.size w0 w' ∧ KeepBut w w' g none := by
 have HI0 := Aside0.mk hI
 have HK := Aside0.mk (KeepBut.refl w g none)
 have HL := Aside0.mk hB.size
 clear hI
 have HW0 := Aside0.mk hB.size
 have HB := Aside0.mk hB
 clear hB
 have H : (spec_l1Rd_word.l0 k 0 0 s0_0 s0_1) = some (r1, r2) := h
 clear h
 have H' := Aside0.mk H
 clear H
 go_enter Try.func79, Try.ntmps79
 go_wp2
 go_loopg [3, 4] k (fun kq v3 v4 w' => ∃ (x3_1 : Int) (x4_1 : Int) (x1001_1 : Int), v3 = .int .u64 x3_1 ∧ v4 = .int .i64 x4_1 ∧ Aside0 (spec_l1Rd_word.l0 kq x3_1 x4_1 s0_0 x1001_1 = some (r1, r2)) ∧ Aside0 (kq ≤ k) ∧ Aside0 (IsS94 w0 w' g s0_0 x1001_1) ∧ Aside0 (KeepBut w w' g none) ∧ Aside0 (Below w0.heap.size w0 w'))
 case atStart => exact ⟨(0), (0), (s0_1), qdk7_24, qdk7_24, H', ⟨Nat.le_refl _⟩, ⟨(rdk7_5 HI0)⟩, ⟨(rdk7_6 HK)⟩, ⟨(rdk7_3 HB HI0)⟩⟩
 case round =>
  clear H'
  obtain ⟨x3_1, x4_1, x1001_1, rfl, rfl, HA, HK1, HI0, HK, HB⟩ := hrel
  cases gk with
  | zero => exact absurd HA.out (by simp [spec_l1Rd_word.l0])
  | succ k1 =>
   have H := HA.out
   clear HA
   simp only [spec_l1Rd_word.l0] at H
   by_cases c2 : x4_1 < 8
   ·rw [if_pos c2] at H
    have c2b0 : decide (x4_1 < 8) = true := decide_eq_true c2
    clear c2
    replace H := Option.bind_eq_some_iff.mp H
    obtain ⟨⟨t287, t288⟩, A30, H⟩ := H
    replace H : (spec_l1Rd_word.l0 k1 (Go.bits .or .u64 (IntKind.u64.wrap (x3_1 * 256)) (IntKind.u64.wrap (t287))) (wrap64 (x4_1 + 1)) s0_0 t288) = some (r1, r2) := H
    have A3 := Aside0.mk A30
    clear A30
    have H' := Aside0.mk H
    clear H
    go_wp2_with (first | ((with_reducible refine gate_callee (f := 69) rfl ?_); refine goesL_ (some 12) rfl rfl Try.func69 qdk7_18 rfl #[.pointer (some ⟨g, 0, none⟩)] rfl qdk7_2 ?_; (with_reducible refine (spec_l1Rd_next.calls g s0_0 x1001_1 t287 t288 w0 _ ?side1 ?side2 A3.out).mono ?_); (case side1 => exact qdk7_7); (case side2 => exact (qdk7_6 HB)); rintro e w4 ⟨rfl, hi, hb, hk⟩; refine ⟨_, rfl, ?_⟩; have n0_ := Aside0.mk (KeepBut.trans (qdk7_4 HK) hk (.inl rfl)); have n1_ := Aside0.mk (hb); have n2_ := Aside0.mk (hi); clear HK HB HI0; have HK := n0_; have HB := n1_; have HI0 := n2_; clear n0_ n1_ n2_; (try clear hb); (try clear hb2); (try clear hk); (try clear hi)))
    go_roundg k1
    case measure => have := HK1.out; omega
    case rel => exact ⟨(Go.bits .or .u64 (IntKind.u64.wrap (x3_1 * 256)) (IntKind.u64.wrap (t287))), (wrap64 (x4_1 + 1)), (t288), qdk7_24, qdk7_24, H', ⟨(by have := HK1.out; omega)⟩, ⟨(rdk7_5 HI0)⟩, ⟨(rdk7_6 HK)⟩, ⟨(rdk7_3 HB HI0)⟩⟩
   rw [if_neg c2] at H
   have c2b0 : decide (x4_1 < 8) = false := decide_eq_false c2
   clear c2
   simp only [Option.some.injEq, Prod.mk.injEq] at H
   obtain ⟨rfl, rfl⟩ := H
   go_wp2
   go_ret
   exact ⟨rdk7_4, (rdk7_5 HI0), (rdk7_3 HB HI0), (rdk7_6 HK)⟩
def spec_l7DrawHash.f (k : Nat) (s0_0 : List Int) (s0_1 : Int) : Option (Int × Int) := (spec_l1Rd_once.f s0_0 s0_1 5).bind fun bt289 => (if bt289.1 = true then ((spec_l1Rd_word.f k s0_0 bt289.2).bind fun bt291 => (some (bt291.1, bt291.2))) else ((spec_l1Rd_below.f s0_0 bt289.2 12).bind fun bt293 => ((some (([1, 8, 32, 32, 1152921504606846976] : List Int) : List Int)).bind fun y295 => ((spec_l1Rd_below.f s0_0 bt293.2 5).bind fun bt298 => (if 0 ≤ bt298.1 then (if bt298.1 < (y295.length : Int) then (some (IntKind.u64.wrap ((IntKind.u64.wrap (bt293.1)) * (rd y295 bt298.1)), bt298.2)) else (none)) else (none))))))
set_option maxHeartbeats 8000000 in
set_option maxRecDepth 100000 in
theorem spec_l7DrawHash.calls (k : Nat) (g : Nat) (s0_0 : List Int) (s0_1 : Int) (r1 : Int) (r2 : Int) (w0 w : World) (hI : IsS94 w0 w g s0_0 s0_1) (hB : Below w0.heap.size w0 w) (h : spec_l7DrawHash.f k s0_0 s0_1 = some (r1, r2)) :
  Calls Try.prog 78 #[.pointer (some ⟨g, 0, none⟩)] w fun e w' => e = .returned (.int .u64 r1) ∧ IsS94 w0 w' g s0_0 r2 ∧ Below w0.heap.size w0 w' ∧ KeepBut w w' g none := by
 have HI0 := Aside0.mk hI
 have HK := Aside0.mk (KeepBut.refl w g none)
 have HL := Aside0.mk hB.size
 clear hI
 have HW0 := Aside0.mk hB.size
 have HB := Aside0.mk hB
 clear hB
 have H : ((spec_l1Rd_once.f s0_0 s0_1 5).bind fun bt289 => (if bt289.1 = true then ((spec_l1Rd_word.f k s0_0 bt289.2).bind fun bt291 => (some (bt291.1, bt291.2))) else ((spec_l1Rd_below.f s0_0 bt289.2 12).bind fun bt293 => ((some (([1, 8, 32, 32, 1152921504606846976] : List Int) : List Int)).bind fun y295 => ((spec_l1Rd_below.f s0_0 bt293.2 5).bind fun bt298 => (if 0 ≤ bt298.1 then (if bt298.1 < (y295.length : Int) then (some (IntKind.u64.wrap ((IntKind.u64.wrap (bt293.1)) * (rd y295 bt298.1)), bt298.2)) else (none)) else (none))))))) = some (r1, r2) := h
 clear h
 replace H := Option.bind_eq_some_iff.mp H
 obtain ⟨⟨t289, t290⟩, A20, H⟩ := H
 replace H : (if t289 = true then ((spec_l1Rd_word.f k s0_0 t290).bind fun bt291 => (some (bt291.1, bt291.2))) else ((spec_l1Rd_below.f s0_0 t290 12).bind fun bt293 => ((some (([1, 8, 32, 32, 1152921504606846976] : List Int) : List Int)).bind fun y295 => ((spec_l1Rd_below.f s0_0 bt293.2 5).bind fun bt298 => (if 0 ≤ bt298.1 then (if bt298.1 < (y295.length : Int) then (some (IntKind.u64.wrap ((IntKind.u64.wrap (bt293.1)) * (rd y295 bt298.1)), bt298.2)) else (none)) else (none)))))) = some (r1, r2) := H
 have A2 := Aside0.mk A20
 clear A20
 by_cases c3 : t289 = true
 ·subst c3
  have H1 : ((spec_l1Rd_word.f k s0_0 t290).bind fun bt291 => (some (bt291.1, bt291.2))) = some (r1, r2) := by rw [if_pos rfl] at H; exact H
  clear H
  have H := H1
  clear H1
  replace H := Option.bind_eq_some_iff.mp H
  obtain ⟨⟨t291, t292⟩, A40, H⟩ := H
  replace H : (some (t291, t292)) = some (r1, r2) := H
  have A4 := Aside0.mk A40
  clear A40
  simp only [Option.some.injEq, Prod.mk.injEq] at H
  obtain ⟨rfl, rfl⟩ := H
  go_enter Try.func78, Try.ntmps78
  go_wp2_with (first | ((with_reducible refine gate_callee (f := 46) rfl ?_); refine goesL_ (some 4) rfl rfl Try.func46 qdk7_18 rfl #[.pointer (some ⟨g, 0, none⟩), .int .i64 5] rfl qdk7_2 ?_; (with_reducible refine (spec_l1Rd_once.calls g s0_0 s0_1 5 true t290 w0 _ ?side1 ?side2 A2.out).mono ?_); (case side1 => exact qdk7_7); (case side2 => exact (qdk7_6 HB)); rintro e w5 ⟨rfl, hi, hb, hk⟩; refine ⟨_, rfl, ?_⟩; have n0_ := Aside0.mk (KeepBut.trans (qdk7_4 HK) hk (.inl rfl)); have n1_ := Aside0.mk (hb); have n2_ := Aside0.mk (hi); clear HK HB HI0; have HK := n0_; have HB := n1_; have HI0 := n2_; clear n0_ n1_ n2_; (try clear hb); (try clear hb2); (try clear hk); (try clear hi)) | ((with_reducible refine gate_callee (f := 79) rfl ?_); refine goesL_ (some 6) rfl rfl Try.func79 qdk7_18 rfl #[.pointer (some ⟨g, 0, none⟩)] rfl qdk7_2 ?_; (with_reducible refine (spec_l1Rd_word.calls k g s0_0 t290 t291 t292 w0 _ ?side1 ?side2 A4.out).mono ?_); (case side1 => exact qdk7_7); (case side2 => exact (qdk7_6 HB)); rintro e w6 ⟨rfl, hi, hb, hk⟩; refine ⟨_, rfl, ?_⟩; have n0_ := Aside0.mk (KeepBut.trans (qdk7_4 HK) hk (.inl rfl)); have n1_ := Aside0.mk (hb); have n2_ := Aside0.mk (hi); clear HK HB HI0; have HK := n0_; have HB := n1_; have HI0 := n2_; clear n0_ n1_ n2_; (try clear hb); (try clear hb2); (try clear hk); (try clear hi)))
  go_ret
  exact ⟨rdk7_4, (rdk7_5 HI0), (rdk7_3 HB HI0), (rdk7_6 HK)⟩
 replace c3 := Bool.eq_false_iff.mpr c3
 subst c3
 have H1 : ((spec_l1Rd_below.f s0_0 t290 12).bind fun bt293 => ((some (([1, 8, 32, 32, 1152921504606846976] : List Int) : List Int)).bind fun y295 => ((spec_l1Rd_below.f s0_0 bt293.2 5).bind fun bt298 => (if 0 ≤ bt298.1 then (if bt298.1 < (y295.length : Int) then (some (IntKind.u64.wrap ((IntKind.u64.wrap (bt293.1)) * (rd y295 bt298.1)), bt298.2)) else (none)) else (none))))) = some (r1, r2) := by rw [if_neg (show ¬ (false = true) by decide)] at H; exact H
 clear H
 have H := H1
 clear H1
 replace H := Option.bind_eq_some_iff.mp H
 obtain ⟨⟨t293, t294⟩, A70, H⟩ := H
 replace H : ((some (([1, 8, 32, 32, 1152921504606846976] : List Int) : List Int)).bind fun y295 => ((spec_l1Rd_below.f s0_0 t294 5).bind fun bt298 => (if 0 ≤ bt298.1 then (if bt298.1 < (y295.length : Int) then (some (IntKind.u64.wrap ((IntKind.u64.wrap (t293)) * (rd y295 bt298.1)), bt298.2)) else (none)) else (none)))) = some (r1, r2) := H
 have A7 := Aside0.mk A70
 clear A70
 obtain ⟨y295, hy295⟩ : ∃ y_ : List Int, y_ = (([1, 8, 32, 32, 1152921504606846976] : List Int)) := ⟨_, rfl⟩
 replace H : ((spec_l1Rd_below.f s0_0 t294 5).bind fun bt298 => (if 0 ≤ bt298.1 then (if bt298.1 < (y295.length : Int) then (some (IntKind.u64.wrap ((IntKind.u64.wrap (t293)) * (rd y295 bt298.1)), bt298.2)) else (none)) else (none))) = some (r1, r2) := by first | (rw [hy295]; with_reducible exact H) | (have H2_ := (Option.bind_some _ _).symm.trans H; rw [hy295]; with_reducible exact H2_) | (have H2_ := (Option.bind_some _ _).symm.trans H; with_reducible exact H2_) | with_reducible exact H | (rw [hy295]; exact H) | exact H
 have Ny295 := Aside0.mk hy295
 clear hy295
 replace H := Option.bind_eq_some_iff.mp H
 obtain ⟨⟨t298, t299⟩, A80, H⟩ := H
 replace H : (if 0 ≤ t298 then (if t298 < (y295.length : Int) then (some (IntKind.u64.wrap ((IntKind.u64.wrap (t293)) * (rd y295 t298)), t299)) else (none)) else (none)) = some (r1, r2) := H
 have A8 := Aside0.mk A80
 clear A80
 by_cases c9 : 0 ≤ t298
 ·rw [if_pos c9] at H
  have c9b0 : decide (0 ≤ t298) = true := decide_eq_true c9
  clear c9
  by_cases c10 : t298 < (y295.length : Int)
  ·rw [if_pos c10] at H
   have c10b0 : decide (t298 < (y295.length : Int)) = true := decide_eq_true c10
   clear c10
   simp only [Option.some.injEq, Prod.mk.injEq] at H
   obtain ⟨rfl, rfl⟩ := H
   go_enter Try.func78, Try.ntmps78
   go_wp2_with (first | ((with_reducible refine gate_callee (f := 46) rfl ?_); refine goesL_ (some 4) rfl rfl Try.func46 qdk7_18 rfl #[.pointer (some ⟨g, 0, none⟩), .int .i64 5] rfl qdk7_2 ?_; (with_reducible refine (spec_l1Rd_once.calls g s0_0 s0_1 5 false t290 w0 _ ?side1 ?side2 A2.out).mono ?_); (case side1 => exact qdk7_7); (case side2 => exact (qdk7_6 HB)); rintro e w11 ⟨rfl, hi, hb, hk⟩; refine ⟨_, rfl, ?_⟩; have n0_ := Aside0.mk (KeepBut.trans (qdk7_4 HK) hk (.inl rfl)); have n1_ := Aside0.mk (hb); have n2_ := Aside0.mk (hi); clear HK HB HI0; have HK := n0_; have HB := n1_; have HI0 := n2_; clear n0_ n1_ n2_; (try clear hb); (try clear hb2); (try clear hk); (try clear hi)) | ((with_reducible refine gate_callee (f := 47) rfl ?_); refine goesL_ (some 8) rfl rfl Try.func47 qdk7_18 rfl #[.pointer (some ⟨g, 0, none⟩), .int .i64 12] rfl qdk7_2 ?_; (with_reducible refine (spec_l1Rd_below.calls g s0_0 t290 12 t293 t294 w0 _ ?side1 ?side2 A7.out).mono ?_); (case side1 => exact qdk7_7); (case side2 => exact (qdk7_6 HB)); rintro e w12 ⟨rfl, hi, hb, hk⟩; refine ⟨_, rfl, ?_⟩; have n0_ := Aside0.mk (KeepBut.trans (qdk7_4 HK) hk (.inl rfl)); have n1_ := Aside0.mk (hb); have n2_ := Aside0.mk (hi); clear HK HB HI0; have HK := n0_; have HB := n1_; have HI0 := n2_; clear n0_ n1_ n2_; (try clear hb); (try clear hb2); (try clear hk); (try clear hi)) | ((with_reducible refine gate_dst (N := 10) rfl ?_); refine Kd.R_lit (Kd.int .u64) _ 35 ?hg (N := 10) ?hd (xs := ([1, 8, 32, 32, 1152921504606846976] : List Int)) (inner := [.int .u64 1, .int .u64 8, .int .u64 32, .int .u64 32, .int .u64 1152921504606846976]) (ok := fun _ => True) (okp := fun _ => True) ?hr ?hp (fun _ hk => hk) trivial (Below.refl _ _) (Nat.le_refl _) (by simp) ?_; (case hd => rfl); (case hg => rfl); (case hr => exact qdk7_23); (case hp => exact (Reps.one (show Kd.M (Kd.int .u64) _ _ _ 1 [.int .u64 1] from rfl) (Reps.one (show Kd.M (Kd.int .u64) _ _ _ 8 [.int .u64 8] from rfl) (Reps.one (show Kd.M (Kd.int .u64) _ _ _ 32 [.int .u64 32] from rfl) (Reps.one (show Kd.M (Kd.int .u64) _ _ _ 32 [.int .u64 32] from rfl) (Reps.one (show Kd.M (Kd.int .u64) _ _ _ 1152921504606846976 [.int .u64 1152921504606846976] from rfl) (Reps.none _ _))))))); intro v296 w13 ho14 hb hg_ hnew_; clear hg_ hnew_; (first | rw [← Ny295.out] at ho14 | (simp only [Int.reduceToNat] at ho14; rw [← Ny295.out] at ho14)); have n0_ := Aside0.mk (Kd.R_lower ho14 (keep_size (w := w) (g := g) (row := none) (qdk7_4 HK))); have n1_ := Aside0.mk (IsS94.below qdk7_7 hb); have n2_ := Aside0.mk (KeepBut.trans (qdk7_4 HK) (KeepBut.of_below hb g none) (.inl rfl)); have n3_ := Aside0.mk (below_step (qdk7_6 HB) hb); clear HI0 HK HB; have HO297 := n0_; have HI0 := n1_; have HK := n2_; have HB := n3_; clear n0_ n1_ n2_ n3_; clear hb ho14) | ((with_reducible refine gate_callee (f := 47) rfl ?_); refine goesL_ (some 12) rfl rfl Try.func47 qdk7_18 rfl #[.pointer (some ⟨g, 0, none⟩), .int .i64 5] rfl qdk7_2 ?_; (with_reducible refine (spec_l1Rd_below.calls g s0_0 t294 5 t298 t299 w0 _ ?side1 ?side2 A8.out).mono ?_); (case side1 => exact qdk7_7); (case side2 => exact (qdk7_6 HB)); rintro e w15 ⟨rfl, hi, hb, hk⟩; refine ⟨_, rfl, ?_⟩; have n0_ := Aside0.mk (Kd.R_mono (Kd.R_keep (IsS94.apart (show IsS94 w0 _ g s0_0 t294 from by repeat (first | (with_reducible first | exact HI0.out | apply IsS94.alloc | apply IsS94.drewN | apply IsS94.drew | apply IsS94.set_1) | exact HI0.out)) (qdk7_19 HO297) (by decide)) hk (fun _ h => h.2)) (fun _ h => h.1)); have n1_ := Aside0.mk (KeepBut.trans (qdk7_4 HK) hk (.inl rfl)); have n2_ := Aside0.mk (hb); have n3_ := Aside0.mk (hi); clear HO297 HK HB HI0; have HO297 := n0_; have HK := n1_; have HB := n2_; have HI0 := n3_; clear n0_ n1_ n2_ n3_; (try clear hb); (try clear hb2); (try clear hk); (try clear hi); obtain ⟨Ao16, co16, eo16⟩ := Kd.R_slice HO297.out; subst eo16; have p300 : 0 ≤ (t298 : Int) := of_decide_eq_true (by first | (with_reducible assumption) | assumption); have q300 : t298 < (y295.length : Int) := of_decide_eq_true (by first | (with_reducible assumption) | assumption); obtain ⟨ad300, e300, hx300_0⟩ := Kd.at_int (Kd.R_reads' HO297.out).2.2 t298 p300 q300; cases e300; replace p300 := eq_true p300; replace q300 := eq_true q300))
   go_ret
   exact ⟨rdk7_4, (rdk7_5 HI0), (rdk7_3 HB HI0), (rdk7_6 HK)⟩
  rw [if_neg c10] at H
  exact absurd H (by simp)
 rw [if_neg c9] at H
 exact absurd H (by simp)
def spec_l7DrawKey.j0 : Nat → Bool → List Int → Int → List Int → List (S62) → Int → Option (Int × Int × Int)
 | 0, _, _, _, _, _, _ => none
 | k + 1, x15, x1000, x1001, x302000, x302001, x302002 => if x15 = true then ((spec_l1Rd_below.f x1000 x1001 (x302001.length : Int)).bind fun bt304 => (if 0 ≤ bt304.1 then (if bt304.1 < (x302001.length : Int) then (some ((rd_T62 x302001 bt304.1).f0, (rd_T62 x302001 bt304.1).f1, bt304.2)) else (none)) else (none))) else ((spec_l7DrawHash.f k x1000 x1001).bind fun bt308 => ((spec_l1Rd_below.f x1000 bt308.2 30).bind fun bt310 => (some (bt308.1, bt310.1, bt310.2))))
def spec_l7DrawKey.f (k : Nat) (s0_0 : List Int) (s0_1 : Int) (l1_0 : List Int) (l1_1 : List (S62)) (a1_2 : Int) : Option (Int × Int × Int) := if (l1_1.length : Int) > 0 then ((spec_l1Rd_once.f s0_0 s0_1 3).bind fun bt302 => (spec_l7DrawKey.j0 k (!bt302.1) s0_0 bt302.2 l1_0 l1_1 a1_2)) else (spec_l7DrawKey.j0 k false s0_0 s0_1 l1_0 l1_1 a1_2)
def spec_l7DrawKey.T2 : Bool × List (List Nat × List Nat) := (true, [([], []), ([0], [0]), ([], []), ([], []), ([3], [3]), ([4], [4]), ([2, 5], [2, 5]), ([1, 6], [1, 6]), ([7], [7]), ([], []), ([9, 8, 6, 0, 1, 2, 3, 4, 5, 6, 7, 8, 9], [8, 9])])
def spec_l7DrawKey.B2 : List Nat := [0, 1, 0, 0, 8, 24, 60, 127, 255, 0, 1023]
theorem spec_l7DrawKey.tab2 : rtab .any (opsOf Try.f76 2) = spec_l7DrawKey.T2 := by kernel_rfl
theorem spec_l7DrawKey.bits2 : waitsOk spec_l7DrawKey.T2.2 spec_l7DrawKey.B2 = true := by kernel_rfl
set_option maxHeartbeats 8000000 in
set_option maxRecDepth 100000 in
theorem spec_l7DrawKey.calls (k : Nat) (g : Nat) (s0_0 : List Int) (s0_1 : Int) (A1_0 : Option Addr) (c1_0 : Nat) (l1_0 : List Int) (A1_1 : Option Addr) (c1_1 : Nat) (l1_1 : List (S62)) (a1_2 : Int) (r1 : Int) (r2 : Int) (r3 : Int) (w0 w : World) (hI : IsS94 w0 w g s0_0 s0_1) (hB : Below w0.heap.size w0 w) (hr1_0 : Kd.C (Kd.int .i64) w A1_0 l1_0.length l1_0) (hc1_0 : l1_0.length ≤ c1_0) (hf1_0 : ∀ ad, A1_0 = some ad → 0 < l1_0.length → ad.block ≠ g) (hr1_1 : ∀ W_, KeepBut w W_ g none → Kd.C k62 W_ A1_1 l1_1.length l1_1) (hc1_1 : l1_1.length ≤ c1_1) (h : spec_l7DrawKey.f k s0_0 s0_1 l1_0 l1_1 a1_2 = some (r1, r2, r3)) :
  Calls Try.prog 76 #[.pointer (some ⟨g, 0, none⟩), .agg #[.slice A1_0 l1_0.length c1_0, .slice A1_1 l1_1.length c1_1, .int .i64 a1_2]] w fun e w' => e = .returned (.tuple #[.int .u64 r1, .int .i64 r2]) ∧ IsS94 w0 w' g s0_0 r3 ∧ Below w0.heap.size w0 w' ∧ KeepBut w w' g none := by
 have hu25 := Try.underlying25
 have hu62 := Try.underlying62
 have HR1_0 := Aside0.mk hr1_0
 have HC1_0 := Aside0.mk hc1_0
 clear hr1_0 hc1_0
 have HR1_1 := Aside0.mk hr1_1
 have HC1_1 := Aside0.mk hc1_1
 clear hr1_1 hc1_1
 have HI0 := Aside0.mk hI
 have HK := Aside0.mk (KeepBut.refl w g none)
 have HL := Aside0.mk hB.size
 clear hI
 have HW0 := Aside0.mk hB.size
 have HB := Aside0.mk hB
 clear hB
 have H : (if (l1_1.length : Int) > 0 then ((spec_l1Rd_once.f s0_0 s0_1 3).bind fun bt302 => (spec_l7DrawKey.j0 k (!bt302.1) s0_0 bt302.2 l1_0 l1_1 a1_2)) else (spec_l7DrawKey.j0 k false s0_0 s0_1 l1_0 l1_1 a1_2)) = some (r1, r2, r3) := h
 clear h
 have HC3 := Aside0.mk H
 clear H
 go_enter Try.func76, Try.ntmps76
 go_upto_region 1 with (first | ((with_reducible refine gate_dst (N := 3) rfl ?_); refine box_event ?hg (N := 3) ?hd (cs := #[.slice A1_0 l1_0.length c1_0, .slice A1_1 l1_1.length c1_1, .int .i64 a1_2]) (t := 25) ?hr ?_; (case hd => rfl); (case hg => rfl); (case hr => exact qdk7_23); intro gb301 hg w4 hbox hb; have n0_ := Aside0.mk (IsS94.below qdk7_7 hb); have n1_ := Aside0.mk (KeepBut.trans (qdk7_4 HK) (KeepBut.of_below hb g none) (.inl rfl)); have n2_ := Aside0.mk (below_step (qdk7_6 HB) hb); have n3_ := Aside0.mk (hbox); have n4_ := Aside0.mk ((by rw [hg]; exact (keep_size (w := w) (g := g) (row := none) (qdk7_4 HK)) : w.heap.size ≤ gb301)); have n5_ := Aside0.mk ((Nat.le_trans HW0.out (by rw [hg]; exact (keep_size (w := w) (g := g) (row := none) (qdk7_4 HK)) : w.heap.size ≤ gb301) : w0.heap.size ≤ gb301)); have n6_ := Aside0.mk ((by rw [hg]; exact Nat.ne_of_lt (IsS94.lt (show IsS94 w0 _ g s0_0 s0_1 from by repeat (first | (with_reducible first | exact HI0.out | apply IsS94.alloc | apply IsS94.drewN | apply IsS94.drew | apply IsS94.set_1) | exact HI0.out))) : g ≠ gb301)); have n7_ := Aside0.mk ((by rw [hg]; exact Nat.ne_of_gt (IsS94.lt (show IsS94 w0 _ g s0_0 s0_1 from by repeat (first | (with_reducible first | exact HI0.out | apply IsS94.alloc | apply IsS94.drewN | apply IsS94.drew | apply IsS94.set_1) | exact HI0.out))) : gb301 ≠ g)); clear HI0 HK HB; have HI0 := n0_; have HK := n1_; have HB := n2_; have BK301 := n3_; have GW301 := n4_; have GE301 := n5_; have NB0_301 := n6_; have NB301_0 := n7_; clear n0_ n1_ n2_ n3_ n4_ n5_ n6_ n7_; clear hb hbox hg))
 (try simp only [Act.put, List.setIfInBounds_toArray, List.set_cons_zero, List.set_cons_succ])
 go_cut [15] (fun v15 wc => ∃ (kq : Nat) (x15_2 : Bool) (x1001_2 : Int), v15 = .bool x15_2 ∧ Aside0 (spec_l7DrawKey.j0 kq x15_2 s0_0 x1001_2 l1_0 l1_1 a1_2 = some (r1, r2, r3)) ∧ Aside0 (kq ≤ k) ∧ Aside0 (wc.heap[gb301]? = some (.cells #[(.slice A1_0 l1_0.length c1_0), (.slice A1_1 l1_1.length c1_1), .int .i64 a1_2] 25 (0, 0))) ∧ Aside0 (IsS94 w0 wc g s0_0 x1001_2) ∧ Aside0 (KeepBut w wc g none) ∧ Aside0 (Below w0.heap.size w0 wc))
 case first =>
  have H := HC3.out
  clear HC3
  by_cases c5 : (l1_1.length : Int) > 0
  ·rw [if_pos c5] at H
   have c5b0 : decide (0 < (l1_1.length : Int)) = true := decide_eq_true c5
   have c5b1 : decide (0 < l1_1.length) = true := decide_eq_true (by omega)
   clear c5
   (first | rw [c5b0] | (simp only [i64_w, i32_w]; rw [c5b0]) | skip)
   replace H := Option.bind_eq_some_iff.mp H
   obtain ⟨⟨t302, t303⟩, A60, H⟩ := H
   replace H : (spec_l7DrawKey.j0 k (!t302) s0_0 t303 l1_0 l1_1 a1_2) = some (r1, r2, r3) := H
   have A6 := Aside0.mk A60
   clear A60
   have H' := Aside0.mk H
   clear H
   have hnb7 := NB301_0.out
   have hnc7 := NB0_301.out
   have hcz8_0 : w4.cell? ⟨gb301, 0, none⟩ = some (.slice A1_0 l1_0.length c1_0) := (blk_cell BK301.out 0).trans rfl
   have hcz8_1 : w4.cell? ⟨gb301, 1, none⟩ = some (.slice A1_1 l1_1.length c1_1) := (blk_cell BK301.out 1).trans rfl
   have hcz8_2 : w4.cell? ⟨gb301, 2, none⟩ = some (.int .i64 a1_2) := (blk_cell BK301.out 2).trans rfl
   have hfz8_0 := blk_frozen BK301.out 0
   have hfz8_1 := blk_frozen BK301.out 1
   have hfz8_2 := blk_frozen BK301.out 2
   go_wp2_with (first | (go_at_call 46; (with_reducible refine (spec_l1Rd_once.calls g s0_0 s0_1 3 t302 t303 w0 _ ?side1 ?side2 A6.out).mono ?_); (case side1 => exact (qdk7_14 NB0_301)); (case side2 => exact (qdk7_13 HB GE301)); rintro e w9 ⟨rfl, hi, hb, hk⟩; have n0_ := Aside0.mk (KeepBut.blk hk (g' := gb301) (o := .cells #[.slice A1_0 l1_0.length c1_0, .slice A1_1 l1_1.length c1_1, .int .i64 a1_2] 25 (0, 0)) (qdk7_1 BK301) NB301_0.out (by simp)); have n1_ := Aside0.mk (KeepBut.trans (qdk7_3 HK GW301) hk (.inl rfl)); have n2_ := Aside0.mk (hb); have n3_ := Aside0.mk (hi); clear BK301 HK HB HI0; have BK301 := n0_; have HK := n1_; have HB := n2_; have HI0 := n3_; clear n0_ n1_ n2_ n3_; (try clear hb); (try clear hb2); (try clear hk); (try clear hi)))
   go_meet
   case rel => exact ⟨_, (!t302), (t303), qdk7_24, H', ⟨(by first | omega | exact Nat.le_refl _)⟩, ⟨(by (with_reducible repeat (first | refine blk_drewN ?_ _ | refine blk_drew ?_ | refine blk_alloc ?_ _)); exact BK301.out)⟩, ⟨(rdk7_1 HI0 NB0_301)⟩, ⟨(rdk7_11 HK GW301)⟩, ⟨(rdk7_10 HB HI0 GE301)⟩⟩
  rw [if_neg c5] at H
  have c5b0 : decide (0 < (l1_1.length : Int)) = false := decide_eq_false c5
  have c5b1 : decide (0 < l1_1.length) = false := decide_eq_false (by omega)
  clear c5
  (first | rw [c5b0] | (simp only [i64_w, i32_w]; rw [c5b0]) | skip)
  have H' := Aside0.mk H
  clear H
  have hnb10 := NB301_0.out
  have hnc10 := NB0_301.out
  have hcz11_0 : w4.cell? ⟨gb301, 0, none⟩ = some (.slice A1_0 l1_0.length c1_0) := (blk_cell BK301.out 0).trans rfl
  have hcz11_1 : w4.cell? ⟨gb301, 1, none⟩ = some (.slice A1_1 l1_1.length c1_1) := (blk_cell BK301.out 1).trans rfl
  have hcz11_2 : w4.cell? ⟨gb301, 2, none⟩ = some (.int .i64 a1_2) := (blk_cell BK301.out 2).trans rfl
  have hfz11_0 := blk_frozen BK301.out 0
  have hfz11_1 := blk_frozen BK301.out 1
  have hfz11_2 := blk_frozen BK301.out 2
  go_wp2
  go_meet
  case rel => exact ⟨_, (false), (s0_1), qdk7_24, H', ⟨(by first | omega | exact Nat.le_refl _)⟩, ⟨(by (with_reducible repeat (first | refine blk_drewN ?_ _ | refine blk_drew ?_ | refine blk_alloc ?_ _)); exact BK301.out)⟩, ⟨(rdk7_1 HI0 NB0_301)⟩, ⟨(rdk7_11 HK GW301)⟩, ⟨(rdk7_10 HB HI0 GE301)⟩⟩
 case rest =>
  clear HC3
  obtain ⟨kq, x15_2, x1001_2, rfl, HA, HJ2, BK301, HI0, HK, HB⟩ := hcut
  cases kq with
  | zero => exact absurd HA.out (by simp [spec_l7DrawKey.j0])
  | succ kj2 =>
   have H := HA.out
   clear HA
   simp only [spec_l7DrawKey.j0] at H
   by_cases c12 : x15_2 = true
   ·subst c12
    have H1 : ((spec_l1Rd_below.f s0_0 x1001_2 (l1_1.length : Int)).bind fun bt304 => (if 0 ≤ bt304.1 then (if bt304.1 < (l1_1.length : Int) then (some ((rd_T62 l1_1 bt304.1).f0, (rd_T62 l1_1 bt304.1).f1, bt304.2)) else (none)) else (none))) = some (r1, r2, r3) := by rw [if_pos rfl] at H; exact H
    clear H
    have H := H1
    clear H1
    replace H := Option.bind_eq_some_iff.mp H
    obtain ⟨⟨t304, t305⟩, A130, H⟩ := H
    replace H : (if 0 ≤ t304 then (if t304 < (l1_1.length : Int) then (some ((rd_T62 l1_1 t304).f0, (rd_T62 l1_1 t304).f1, t305)) else (none)) else (none)) = some (r1, r2, r3) := H
    have A13 := Aside0.mk A130
    clear A130
    by_cases c14 : 0 ≤ t304
    ·rw [if_pos c14] at H
     have c14b0 : decide (0 ≤ t304) = true := decide_eq_true c14
     clear c14
     by_cases c15 : t304 < (l1_1.length : Int)
     ·rw [if_pos c15] at H
      have c15b0 : decide (t304 < (l1_1.length : Int)) = true := decide_eq_true c15
      clear c15
      simp only [Option.some.injEq, Prod.mk.injEq] at H
      obtain ⟨rfl, rfl, rfl⟩ := H
      try go_wp2
      have n0_ := Aside0.mk (blk_drew BK301.out)
      have n1_ := Aside0.mk (IsS94.drew HI0.out)
      have n2_ := Aside0.mk (keep_drew HK.out)
      have n3_ := Aside0.mk (below_drew1 HB.out)
      clear BK301 HI0 HK HB
      have BK301 := n0_
      have HI0 := n1_
      have HK := n2_
      have HB := n3_
      clear n0_ n1_ n2_ n3_
      have p306 : 0 ≤ (t304 : Int) := of_decide_eq_true (by first | (with_reducible assumption) | assumption)
      have q306 : t304 < (l1_1.length : Int) := of_decide_eq_true (by first | (with_reducible assumption) | assumption)
      obtain ⟨ad306, e306, hx306_0, hx306_1, hx306_2, hx306_3⟩ := at_T62 (Kd.C_foot_now HR1_1.out HK.out) t304 p306 q306
      have hw306_3 := hx306_3
      have hw306_2 := hx306_2
      have hw306_1 := hx306_1
      have hw306_0 := hx306_0
      cases e306
      have hne306_3 := (show (⟨(ad306.add ((t304).toNat * 4)).block, (ad306.add ((t304).toNat * 4)).off + 3, none⟩ : Addr).block ≠ g from by first | (rw [add_block]; exact Kd.foot_ne HR1_1.out (by omega) (by decide)) | (show (Addr.add _ _).block ≠ _; rw [add_block]; exact Kd.foot_ne HR1_1.out (by omega) (by decide)) | exact Kd.foot_ne HR1_1.out (by omega) (by decide) | (dsimp only; exact Kd.foot_ne HR1_1.out (by omega) (by decide)))
      have hlt306_3 := (Kd.foot_lt HR1_1.out (by omega) (by decide))
      have hne306_2 := (show (⟨(ad306.add ((t304).toNat * 4)).block, (ad306.add ((t304).toNat * 4)).off + 2, none⟩ : Addr).block ≠ g from by first | (rw [add_block]; exact Kd.foot_ne HR1_1.out (by omega) (by decide)) | (show (Addr.add _ _).block ≠ _; rw [add_block]; exact Kd.foot_ne HR1_1.out (by omega) (by decide)) | exact Kd.foot_ne HR1_1.out (by omega) (by decide) | (dsimp only; exact Kd.foot_ne HR1_1.out (by omega) (by decide)))
      have hlt306_2 := (Kd.foot_lt HR1_1.out (by omega) (by decide))
      have hne306_1 := (show (⟨(ad306.add ((t304).toNat * 4)).block, (ad306.add ((t304).toNat * 4)).off + 1, none⟩ : Addr).block ≠ g from by first | (rw [add_block]; exact Kd.foot_ne HR1_1.out (by omega) (by decide)) | (show (Addr.add _ _).block ≠ _; rw [add_block]; exact Kd.foot_ne HR1_1.out (by omega) (by decide)) | exact Kd.foot_ne HR1_1.out (by omega) (by decide) | (dsimp only; exact Kd.foot_ne HR1_1.out (by omega) (by decide)))
      have hlt306_1 := (Kd.foot_lt HR1_1.out (by omega) (by decide))
      have hne306_0 := (show ((ad306.add ((t304).toNat * 4)) : Addr).block ≠ g from by first | (rw [add_block]; exact Kd.foot_ne HR1_1.out (by omega) (by decide)) | (show (Addr.add _ _).block ≠ _; rw [add_block]; exact Kd.foot_ne HR1_1.out (by omega) (by decide)) | exact Kd.foot_ne HR1_1.out (by omega) (by decide) | (dsimp only; exact Kd.foot_ne HR1_1.out (by omega) (by decide)))
      have hlt306_0 := (Kd.foot_lt HR1_1.out (by omega) (by decide))
      replace p306 := eq_true p306
      replace q306 := eq_true q306
      refine start_ (n := 11) (S := fun w' => w'.cell? ⟨gb301, 0, none⟩ = some (.slice A1_0 l1_0.length c1_0) ∧ w'.cell? ⟨gb301, 1, none⟩ = some (.slice (some ad306) l1_1.length c1_1) ∧ w'.cell? ⟨gb301, 2, none⟩ = some (.int .i64 a1_2) ∧ w'.cell? (ad306.add ((t304).toNat * 4)) = some (.int .u64 ((rd_T62 l1_1 t304).f0)) ∧ w'.cell? ⟨(ad306.add ((t304).toNat * 4)).block, (ad306.add ((t304).toNat * 4)).off + 1, none⟩ = some (.int .i64 ((rd_T62 l1_1 t304).f1)) ∧ w'.cell? ⟨(ad306.add ((t304).toNat * 4)).block, (ad306.add ((t304).toNat * 4)).off + 2, none⟩ = some (.int .i64 ((rd_T62 l1_1 t304).f2)) ∧ w'.cell? ⟨(ad306.add ((t304).toNat * 4)).block, (ad306.add ((t304).toNat * 4)).off + 3, none⟩ = some (.bool ((rd_T62 l1_1 t304).f3))) (ds := []) (bs_ 11 0) qdk7_18 rfl rfl ⟨(blk_cell BK301.out 0).trans rfl, (blk_cell BK301.out 1).trans rfl, (blk_cell BK301.out 2).trans rfl, hx306_0, hx306_1, hx306_2, hx306_3⟩ (fun hHeld => ?_); refine with_tabW spec_l7DrawKey.tab2 spec_l7DrawKey.bits2 (fun HT_ HW_ => ?_)
      generalize wc.drew = w16 at BK301 HI0 HK HB hx306_0 hx306_1 hx306_2 hx306_3 hHeld ⊢
      refine pure_ (i := 0) (N := some 16) (bs_ 11 1) rfl rfl (any_of HT_.out qdk7_18) (fun _ _ _ h => h) (Or.inl ⟨by rfl, qpy_pdkx7⟩) qpa_pdkx7 ?_
      refine pure_ (i := 2) (N := some 18) (bs_ 11 5) rfl rfl (any_of HT_.out qdk7_18) (fun _ _ _ h => h) (Or.inl ⟨by rfl, qpy_pdkx7⟩) qpa_pdkx7 ?_
      refine pure_ (i := 3) (N := some 19) (bs_ 11 13) rfl rfl (any_of HT_.out qdk7_18) (fun _ _ _ h => h) (Or.inl ⟨by rfl, qpy_pdkx7⟩) qpa_pdkx7 ?_
      refine take_ (i := 1) (N := some 17) (bs_ 11 15) rfl rfl (take_ofW HT_.out HW_.out qdk7_18) (fun _ _ _ h => h) (Or.inl ⟨by rfl, qpt7_pdkx7⟩) hHeld qpa_pdkx7 ?_
      refine take_ (i := 4) (N := some 20) (bs_ 11 31) rfl rfl (take_ofW HT_.out HW_.out qdk7_18) (fun _ _ _ h => h) (Or.inl ⟨by rfl, qpt7_pdkx7⟩) hHeld qpa_pdkx7 ?_
      refine pure_ (i := 5) (N := some 21) (bs_ 11 63) rfl rfl (any_of HT_.out qdk7_18) (fun _ _ _ h => h) (Or.inl ⟨by rfl, qpy_pdkx7⟩) qpa_pdkx7 ?_
      refine join_ (σ := Nat) 1 (bs_ 11 1023) (fun s_ => [(22, .int .i64 t304), (6, .pointer (some ⟨s_, 0, none⟩)), (23, .pointer (some (ad306.add ((t304).toNat * 4)))), (24, .agg #[.int .u64 ((rd_T62 l1_1 t304).f0), .int .i64 ((rd_T62 l1_1 t304).f1), .int .i64 ((rd_T62 l1_1 t304).f2), .bool ((rd_T62 l1_1 t304).f3)])]) (fun s_ w' => (w'.cell? ⟨gb301, 0, none⟩ = some (.slice A1_0 l1_0.length c1_0) ∧ w'.cell? ⟨gb301, 1, none⟩ = some (.slice (some ad306) l1_1.length c1_1) ∧ w'.cell? ⟨gb301, 2, none⟩ = some (.int .i64 a1_2) ∧ w'.cell? (ad306.add ((t304).toNat * 4)) = some (.int .u64 ((rd_T62 l1_1 t304).f0)) ∧ w'.cell? ⟨(ad306.add ((t304).toNat * 4)).block, (ad306.add ((t304).toNat * 4)).off + 1, none⟩ = some (.int .i64 ((rd_T62 l1_1 t304).f1)) ∧ w'.cell? ⟨(ad306.add ((t304).toNat * 4)).block, (ad306.add ((t304).toNat * 4)).off + 2, none⟩ = some (.int .i64 ((rd_T62 l1_1 t304).f2)) ∧ w'.cell? ⟨(ad306.add ((t304).toNat * 4)).block, (ad306.add ((t304).toNat * 4)).off + 3, none⟩ = some (.bool ((rd_T62 l1_1 t304).f3))) ∧ (w'.heap[gb301]? = some (.cells #[.slice A1_0 l1_0.length c1_0, .slice (some ad306) l1_1.length c1_1, .int .i64 a1_2] 25 (0, 0))) ∧ (w'.heap[s_]? = some (.cells #[.int .u64 0, .int .i64 0, .int .i64 0, .bool false] 62 (0, 0))) ∧ (w.heap.size ≤ s_) ∧ (w0.heap.size ≤ s_) ∧ (g ≠ s_) ∧ (s_ ≠ g) ∧ (gb301 ≠ s_) ∧ (s_ ≠ gb301) ∧ (IsS94 w0 w' g s0_0 t305) ∧ (KeepBut w w' g none) ∧ (Below w0.heap.size w0 w')) ?_ ?_
      rotate_left
      ·intro hCont
       refine two_ (i := 6) (j := 9) (Ni := some 22) (Nj := some 6) (bs_ 11 127) (bs_ 11 575) rfl rfl rfl rfl (two_of HT_.out qdk7_18) (by decide) (by decide) (fun K hK => ?_) (fun K hK => ?_)
       ·skip
        refine goes_ Try.func47 qdk7_18 rfl #[.pointer (some ⟨g, 0, none⟩), .int .i64 (l1_1.length : Int)] (by rfl) rfl rfl qdk7_2 ?_
        with_reducible refine (spec_l1Rd_below.calls g s0_0 x1001_2 (l1_1.length : Int) t304 t305 w0 _ ?side1 ?side2 A13.out).mono ?_
        (case side1 => exact (qdk7_14 NB0_301))
        (case side2 => exact (qdk7_13 HB GE301))
        rintro e w17 ⟨rfl, hi, hb, hk⟩
        have HS3_ := keep_cell hk (hHeld.2.2.2.1) (by first | (rw [add_block]; exact hne306_0) | (show (Addr.add _ _).block ≠ _; rw [add_block]; exact hne306_0) | exact hne306_0)
        have HS4_ := keep_cell hk (hHeld.2.2.2.2.1) (by first | (rw [add_block]; exact hne306_1) | (show (Addr.add _ _).block ≠ _; rw [add_block]; exact hne306_1) | exact hne306_1)
        have HS5_ := keep_cell hk (hHeld.2.2.2.2.2.1) (by first | (rw [add_block]; exact hne306_2) | (show (Addr.add _ _).block ≠ _; rw [add_block]; exact hne306_2) | exact hne306_2)
        have HS6_ := keep_cell hk (hHeld.2.2.2.2.2.2) (by first | (rw [add_block]; exact hne306_3) | (show (Addr.add _ _).block ≠ _; rw [add_block]; exact hne306_3) | exact hne306_3)
        refine ⟨_, rfl, ?_⟩
        have n0_ := Aside0.mk (KeepBut.blk hk (g' := gb301) (o := .cells #[.slice A1_0 l1_0.length c1_0, .slice (some ad306) l1_1.length c1_1, .int .i64 a1_2] 25 (0, 0)) (qdk7_1 BK301) NB301_0.out (by simp))
        have n1_ := Aside0.mk (KeepBut.trans (qdk7_3 HK GW301) hk (.inl rfl))
        have n2_ := Aside0.mk (hb)
        have n3_ := Aside0.mk (hi)
        clear BK301 HK HB HI0
        have BK301 := n0_
        have HK := n1_
        have HB := n2_
        have HI0 := n3_
        clear n0_ n1_ n2_ n3_
        (try clear hb)
        (try clear hb2)
        (try clear hk)
        (try clear hi)
        refine hK.out _ _ ⟨(blk_cell BK301.out 0).trans rfl, (blk_cell BK301.out 1).trans rfl, (blk_cell BK301.out 2).trans rfl, HS3_, HS4_, HS5_, HS6_⟩ (fun hHeld => ?_)
        clear hK K
        refine norm_ (a' := ?_) ?_ ?_
        rotate_left
        ·show Act.put _ (some 22) _ = _
         simp only [Act.put, List.setIfInBounds_toArray, List.set_cons_zero, List.set_cons_succ, i64_w, i32_w]
         rfl
        refine pure_ (i := 7) (N := some 23) (bs_ 11 255) rfl rfl (any_of HT_.out qdk7_18) (fun _ _ _ h => h) (Or.inl ⟨by rfl, qpy_pdkx7⟩) qpa_pdkx7 ?_
        refine take_ (i := 8) (N := some 24) (bs_ 11 511) rfl rfl (take_ofW HT_.out HW_.out qdk7_18) (fun _ _ _ h => h) (Or.inl ⟨by rfl, qpt7_pdkx7⟩) hHeld qpa_pdkx7 ?_
        refine one_ (i := 9) (N := some 6) (bs_ 11 1023) rfl rfl (one_of HT_.out qdk7_18) (by decide) (fun K hK => ?_)
        refine box_step ?hg (N := 6) ?hd (cs := #[.int .u64 0, .int .i64 0, .int .i64 0, .bool false]) (t := 62) ?hr ?_; (case hd => rfl); (case hg => rfl); (case hr => exact qdk7_23)
        intro gb307 hg w18 hbox hb
        have HS3_ := hbc_pdkx7 hb hHeld.2.2.2.1
        have HS4_ := hbc_pdkx7 hb hHeld.2.2.2.2.1
        have HS5_ := hbc_pdkx7 hb hHeld.2.2.2.2.2.1
        have HS6_ := hbc_pdkx7 hb hHeld.2.2.2.2.2.2
        have n0_ := Aside0.mk (blk_below (qdk7_1 BK301) hb)
        have n1_ := Aside0.mk (IsS94.below (qdk7_14 NB0_301) hb)
        have n2_ := Aside0.mk (KeepBut.trans (qdk7_3 HK GW301) (KeepBut.of_below hb g none) (.inl rfl))
        have n3_ := Aside0.mk (below_step (qdk7_13 HB GE301) hb)
        have n4_ := Aside0.mk (hbox)
        have n5_ := Aside0.mk ((by rw [hg]; exact (keep_size (w := w) (g := g) (row := none) (qdk7_3 HK GW301)) : w.heap.size ≤ gb307))
        have n6_ := Aside0.mk ((Nat.le_trans HW0.out (by rw [hg]; exact (keep_size (w := w) (g := g) (row := none) (qdk7_3 HK GW301)) : w.heap.size ≤ gb307) : w0.heap.size ≤ gb307))
        have n7_ := Aside0.mk ((qnl_pdkx7 BK301 hg : gb301 ≠ gb307))
        have n8_ := Aside0.mk ((qng_pdkx7 BK301 hg : gb307 ≠ gb301))
        have n9_ := Aside0.mk ((by rw [hg]; exact Nat.ne_of_lt (IsS94.lt (show IsS94 w0 _ g s0_0 t305 from by repeat (first | (with_reducible first | exact HI0.out | apply IsS94.alloc | apply IsS94.drewN | apply IsS94.drew | apply IsS94.set_1 | refine IsS94.far ?_ NB0_301.out _) | exact HI0.out))) : g ≠ gb307))
        have n10_ := Aside0.mk ((by rw [hg]; exact Nat.ne_of_gt (IsS94.lt (show IsS94 w0 _ g s0_0 t305 from by repeat (first | (with_reducible first | exact HI0.out | apply IsS94.alloc | apply IsS94.drewN | apply IsS94.drew | apply IsS94.set_1 | refine IsS94.far ?_ NB0_301.out _) | exact HI0.out))) : gb307 ≠ g))
        clear BK301 HI0 HK HB
        have BK301 := n0_
        have HI0 := n1_
        have HK := n2_
        have HB := n3_
        have BK307 := n4_
        have GW307 := n5_
        have GE307 := n6_
        have NB301_307 := n7_
        have NB307_301 := n8_
        have NB0_307 := n9_
        have NB307_0 := n10_
        clear n0_ n1_ n2_ n3_ n4_ n5_ n6_ n7_ n8_ n9_ n10_ hb hbox hg
        refine hK.out _ _ ⟨(blk_cell BK301.out 0).trans rfl, (blk_cell BK301.out 1).trans rfl, (blk_cell BK301.out 2).trans rfl, HS3_, HS4_, HS5_, HS6_⟩ (fun hHeld => ?_)
        clear hK K
        refine norm_ (a' := ?_) ?_ ?_
        rotate_left
        ·show Act.put _ (some 6) _ = _
         simp only [Act.put, List.setIfInBounds_toArray, List.set_cons_zero, List.set_cons_succ, i64_w, i32_w]
         rfl
        exact norm_ (by simp only [putAll, Act.put, List.setIfInBounds_toArray, List.set_cons_zero, List.set_cons_succ]) (hCont (gb307) _ ⟨hHeld, (qdk7_1 BK301), (qdk7_1 BK307), GW307.out, GE307.out, NB0_307.out, NB307_0.out, NB301_307.out, NB307_301.out, (qdk7_20 NB0_301 NB0_307), (qdk7_22 HK GW301 GW307), (qdk7_21 HB GE301 GE307)⟩)
       skip
       refine box_step ?hg (N := 6) ?hd (cs := #[.int .u64 0, .int .i64 0, .int .i64 0, .bool false]) (t := 62) ?hr ?_; (case hd => rfl); (case hg => rfl); (case hr => exact qdk7_23)
       intro gb307 hg w17 hbox hb
       have HS3_ := hbc_pdkx7 hb hHeld.2.2.2.1
       have HS4_ := hbc_pdkx7 hb hHeld.2.2.2.2.1
       have HS5_ := hbc_pdkx7 hb hHeld.2.2.2.2.2.1
       have HS6_ := hbc_pdkx7 hb hHeld.2.2.2.2.2.2
       have n0_ := Aside0.mk (blk_below (qdk7_1 BK301) hb)
       have n1_ := Aside0.mk (IsS94.below (qdk7_14 NB0_301) hb)
       have n2_ := Aside0.mk (KeepBut.trans (qdk7_3 HK GW301) (KeepBut.of_below hb g none) (.inl rfl))
       have n3_ := Aside0.mk (below_step (qdk7_13 HB GE301) hb)
       have n4_ := Aside0.mk (hbox)
       have n5_ := Aside0.mk ((by rw [hg]; exact (keep_size (w := w) (g := g) (row := none) (qdk7_3 HK GW301)) : w.heap.size ≤ gb307))
       have n6_ := Aside0.mk ((Nat.le_trans HW0.out (by rw [hg]; exact (keep_size (w := w) (g := g) (row := none) (qdk7_3 HK GW301)) : w.heap.size ≤ gb307) : w0.heap.size ≤ gb307))
       have n7_ := Aside0.mk ((qnl_pdkx7 BK301 hg : gb301 ≠ gb307))
       have n8_ := Aside0.mk ((qng_pdkx7 BK301 hg : gb307 ≠ gb301))
       have n9_ := Aside0.mk ((by rw [hg]; exact Nat.ne_of_lt (IsS94.lt (show IsS94 w0 _ g s0_0 x1001_2 from by repeat (first | (with_reducible first | exact HI0.out | apply IsS94.alloc | apply IsS94.drewN | apply IsS94.drew | apply IsS94.set_1 | refine IsS94.far ?_ NB0_301.out _) | exact HI0.out))) : g ≠ gb307))
       have n10_ := Aside0.mk ((by rw [hg]; exact Nat.ne_of_gt (IsS94.lt (show IsS94 w0 _ g s0_0 x1001_2 from by repeat (first | (with_reducible first | exact HI0.out | apply IsS94.alloc | apply IsS94.drewN | apply IsS94.drew | apply IsS94.set_1 | refine IsS94.far ?_ NB0_301.out _) | exact HI0.out))) : gb307 ≠ g))
       clear BK301 HI0 HK HB
       have BK301 := n0_
       have HI0 := n1_
       have HK := n2_
       have HB := n3_
       have BK307 := n4_
       have GW307 := n5_
       have GE307 := n6_
       have NB301_307 := n7_
       have NB307_301 := n8_
       have NB0_307 := n9_
       have NB307_0 := n10_
       clear n0_ n1_ n2_ n3_ n4_ n5_ n6_ n7_ n8_ n9_ n10_ hb hbox hg
       refine hK.out _ _ ⟨(blk_cell BK301.out 0).trans rfl, (blk_cell BK301.out 1).trans rfl, (blk_cell BK301.out 2).trans rfl, HS3_, HS4_, HS5_, HS6_⟩ (fun hHeld => ?_)
       clear hK K
       refine norm_ (a' := ?_) ?_ ?_
       rotate_left
       ·show Act.put _ (some 6) _ = _
        simp only [Act.put, List.setIfInBounds_toArray, List.set_cons_zero, List.set_cons_succ, i64_w, i32_w]
        rfl
       refine one_ (i := 6) (N := some 22) (bs_ 11 639) rfl rfl (one_of HT_.out qdk7_18) (by decide) (fun K hK => ?_)
       refine goes_ Try.func47 qdk7_18 rfl #[.pointer (some ⟨g, 0, none⟩), .int .i64 (l1_1.length : Int)] (by rfl) rfl rfl qdk7_2 ?_
       with_reducible refine (spec_l1Rd_below.calls g s0_0 x1001_2 (l1_1.length : Int) t304 t305 w0 _ ?side1 ?side2 A13.out).mono ?_
       (case side1 => exact (qdk7_20 NB0_301 NB0_307))
       (case side2 => exact (qdk7_21 HB GE301 GE307))
       rintro e w18 ⟨rfl, hi, hb, hk⟩
       have HS3_ := keep_cell hk (hHeld.2.2.2.1) (by first | (rw [add_block]; exact hne306_0) | (show (Addr.add _ _).block ≠ _; rw [add_block]; exact hne306_0) | exact hne306_0)
       have HS4_ := keep_cell hk (hHeld.2.2.2.2.1) (by first | (rw [add_block]; exact hne306_1) | (show (Addr.add _ _).block ≠ _; rw [add_block]; exact hne306_1) | exact hne306_1)
       have HS5_ := keep_cell hk (hHeld.2.2.2.2.2.1) (by first | (rw [add_block]; exact hne306_2) | (show (Addr.add _ _).block ≠ _; rw [add_block]; exact hne306_2) | exact hne306_2)
       have HS6_ := keep_cell hk (hHeld.2.2.2.2.2.2) (by first | (rw [add_block]; exact hne306_3) | (show (Addr.add _ _).block ≠ _; rw [add_block]; exact hne306_3) | exact hne306_3)
       refine ⟨_, rfl, ?_⟩
       have n0_ := Aside0.mk (KeepBut.blk hk (g' := gb301) (o := .cells #[.slice A1_0 l1_0.length c1_0, .slice (some ad306) l1_1.length c1_1, .int .i64 a1_2] 25 (0, 0)) (qdk7_1 BK301) NB301_0.out (by simp))
       have n1_ := Aside0.mk (KeepBut.blk hk (g' := gb307) (o := .cells #[.int .u64 0, .int .i64 0, .int .i64 0, .bool false] 62 (0, 0)) (qdk7_1 BK307) NB307_0.out (by simp))
       have n2_ := Aside0.mk (KeepBut.trans (qdk7_22 HK GW301 GW307) hk (.inl rfl))
       have n3_ := Aside0.mk (hb)
       have n4_ := Aside0.mk (hi)
       clear BK301 BK307 HK HB HI0
       have BK301 := n0_
       have BK307 := n1_
       have HK := n2_
       have HB := n3_
       have HI0 := n4_
       clear n0_ n1_ n2_ n3_ n4_
       (try clear hb)
       (try clear hb2)
       (try clear hk)
       (try clear hi)
       refine hK.out _ _ ⟨(blk_cell BK301.out 0).trans rfl, (blk_cell BK301.out 1).trans rfl, (blk_cell BK301.out 2).trans rfl, HS3_, HS4_, HS5_, HS6_⟩ (fun hHeld => ?_)
       clear hK K
       refine norm_ (a' := ?_) ?_ ?_
       rotate_left
       ·show Act.put _ (some 22) _ = _
        simp only [Act.put, List.setIfInBounds_toArray, List.set_cons_zero, List.set_cons_succ, i64_w, i32_w]
        rfl
       refine pure_ (i := 7) (N := some 23) (bs_ 11 767) rfl rfl (any_of HT_.out qdk7_18) (fun _ _ _ h => h) (Or.inl ⟨by rfl, qpy_pdkx7⟩) qpa_pdkx7 ?_
       refine take_ (i := 8) (N := some 24) (bs_ 11 1023) rfl rfl (take_ofW HT_.out HW_.out qdk7_18) (fun _ _ _ h => h) (Or.inl ⟨by rfl, qpt7_pdkx7⟩) hHeld qpa_pdkx7 ?_
       exact norm_ (by simp only [putAll, Act.put, List.setIfInBounds_toArray, List.set_cons_zero, List.set_cons_succ]) (hCont (gb307) _ ⟨hHeld, (qdk7_1 BK301), (qdk7_1 BK307), GW307.out, GE307.out, NB0_307.out, NB307_0.out, NB301_307.out, NB307_301.out, (qdk7_20 NB0_301 NB0_307), (qdk7_22 HK GW301 GW307), (qdk7_21 HB GE301 GE307)⟩)
      rintro gb307 w19 ⟨hS_, h0_, h1_, h2_, h3_, h4_, h5_, h6_, h7_, h8_, h9_, h10_⟩
      have n0_ : Aside0 (w19.heap[gb301]? = some (.cells #[.slice A1_0 l1_0.length c1_0, .slice (some ad306) l1_1.length c1_1, .int .i64 a1_2] 25 (0, 0))) := ⟨h0_⟩
      have n1_ : Aside0 (w19.heap[gb307]? = some (.cells #[.int .u64 0, .int .i64 0, .int .i64 0, .bool false] 62 (0, 0))) := ⟨h1_⟩
      have n2_ : Aside0 (w.heap.size ≤ gb307) := ⟨h2_⟩
      have n3_ : Aside0 (w0.heap.size ≤ gb307) := ⟨h3_⟩
      have n4_ : Aside0 (g ≠ gb307) := ⟨h4_⟩
      have n5_ : Aside0 (gb307 ≠ g) := ⟨h5_⟩
      have n6_ : Aside0 (gb301 ≠ gb307) := ⟨h6_⟩
      have n7_ : Aside0 (gb307 ≠ gb301) := ⟨h7_⟩
      have n8_ : Aside0 (IsS94 w0 w19 g s0_0 t305) := ⟨h8_⟩
      have n9_ : Aside0 (KeepBut w w19 g none) := ⟨h9_⟩
      have n10_ : Aside0 (Below w0.heap.size w0 w19) := ⟨h10_⟩
      clear BK301 HI0 HK HB h0_ h1_ h2_ h3_ h4_ h5_ h6_ h7_ h8_ h9_ h10_
      have BK301 := n0_
      have BK307 := n1_
      have GW307 := n2_
      have GE307 := n3_
      have NB0_307 := n4_
      have NB307_0 := n5_
      have NB301_307 := n6_
      have NB307_301 := n7_
      have HI0 := n8_
      have HK := n9_
      have HB := n10_
      clear n0_ n1_ n2_ n3_ n4_ n5_ n6_ n7_ n8_ n9_ n10_
      have hHeld : w19.cell? ⟨gb301, 0, none⟩ = some (.slice A1_0 l1_0.length c1_0) ∧ w19.cell? ⟨gb301, 1, none⟩ = some (.slice (some ad306) l1_1.length c1_1) ∧ w19.cell? ⟨gb301, 2, none⟩ = some (.int .i64 a1_2) ∧ w19.cell? (ad306.add ((t304).toNat * 4)) = some (.int .u64 ((rd_T62 l1_1 t304).f0)) ∧ w19.cell? ⟨(ad306.add ((t304).toNat * 4)).block, (ad306.add ((t304).toNat * 4)).off + 1, none⟩ = some (.int .i64 ((rd_T62 l1_1 t304).f1)) ∧ w19.cell? ⟨(ad306.add ((t304).toNat * 4)).block, (ad306.add ((t304).toNat * 4)).off + 2, none⟩ = some (.int .i64 ((rd_T62 l1_1 t304).f2)) ∧ w19.cell? ⟨(ad306.add ((t304).toNat * 4)).block, (ad306.add ((t304).toNat * 4)).off + 3, none⟩ = some (.bool ((rd_T62 l1_1 t304).f3)) := hS_
      refine norm_ (a' := ?_) ?_ ?_
      rotate_left
      ·simp only [putAll, Act.put, List.setIfInBounds_toArray, List.set_cons_zero, List.set_cons_succ]
       rfl
      refine one_ (i := 10) (N := none) (bs_ 11 2047) rfl rfl (one_of HT_.out qdk7_18) (by decide) (fun K hK => ?_)
      have hs20 : w19.cell? ⟨gb307, 0, none⟩ = some (.int .u64 0) := (blk_cell BK307.out 0).trans rfl
      have hfs20 := blk_frozen BK307.out 0
      have hns20_0 := NB301_307.out
      have hms20_0 := NB307_301.out
      have hs21 : w19.cell? ⟨gb307, 1, none⟩ = some (.int .i64 0) := (blk_cell BK307.out 1).trans rfl
      have hfs21 := blk_frozen BK307.out 1
      have hns21_0 := NB301_307.out
      have hms21_0 := NB307_301.out
      have hs22 : w19.cell? ⟨gb307, 2, none⟩ = some (.int .i64 0) := (blk_cell BK307.out 2).trans rfl
      have hfs22 := blk_frozen BK307.out 2
      have hns22_0 := NB301_307.out
      have hms22_0 := NB307_301.out
      have hs23 : w19.cell? ⟨gb307, 3, none⟩ = some (.bool false) := (blk_cell BK307.out 3).trans rfl
      have hfs23 := blk_frozen BK307.out 3
      have hns23_0 := NB301_307.out
      have hms23_0 := NB307_301.out
      refine skip_ (w1 := ?_) (by rfl) rfl ?_ ?_
      rotate_left
      ·go_simp
       rfl
      refine hK.out _ _ ⟨((cell_far (p := ⟨gb307, _, none⟩) NB301_307.out _).trans (((cell_far (p := ⟨gb307, _, none⟩) NB301_307.out _).trans (((cell_far (p := ⟨gb307, _, none⟩) NB301_307.out _).trans (((cell_far (p := ⟨gb307, _, none⟩) NB301_307.out _).trans (hHeld.1)))))))), ((cell_far (p := ⟨gb307, _, none⟩) NB301_307.out _).trans (((cell_far (p := ⟨gb307, _, none⟩) NB301_307.out _).trans (((cell_far (p := ⟨gb307, _, none⟩) NB301_307.out _).trans (((cell_far (p := ⟨gb307, _, none⟩) NB301_307.out _).trans (hHeld.2.1)))))))), ((cell_far (p := ⟨gb307, _, none⟩) NB301_307.out _).trans (((cell_far (p := ⟨gb307, _, none⟩) NB301_307.out _).trans (((cell_far (p := ⟨gb307, _, none⟩) NB301_307.out _).trans (((cell_far (p := ⟨gb307, _, none⟩) NB301_307.out _).trans (hHeld.2.2.1)))))))), ((cell_far (p := ⟨gb307, _, none⟩) (qdk7_8 GW307) _).trans (((cell_far (p := ⟨gb307, _, none⟩) (qdk7_8 GW307) _).trans (((cell_far (p := ⟨gb307, _, none⟩) (qdk7_8 GW307) _).trans (((cell_far (p := ⟨gb307, _, none⟩) (qdk7_8 GW307) _).trans (hHeld.2.2.2.1)))))))), ((cell_far (p := ⟨gb307, _, none⟩) (qdk7_9 GW307) _).trans (((cell_far (p := ⟨gb307, _, none⟩) (qdk7_9 GW307) _).trans (((cell_far (p := ⟨gb307, _, none⟩) (qdk7_9 GW307) _).trans (((cell_far (p := ⟨gb307, _, none⟩) (qdk7_9 GW307) _).trans (hHeld.2.2.2.2.1)))))))), ((cell_far (p := ⟨gb307, _, none⟩) (qdk7_10 GW307) _).trans (((cell_far (p := ⟨gb307, _, none⟩) (qdk7_10 GW307) _).trans (((cell_far (p := ⟨gb307, _, none⟩) (qdk7_10 GW307) _).trans (((cell_far (p := ⟨gb307, _, none⟩) (qdk7_10 GW307) _).trans (hHeld.2.2.2.2.2.1)))))))), ((cell_far (p := ⟨gb307, _, none⟩) (qdk7_11 GW307) _).trans (((cell_far (p := ⟨gb307, _, none⟩) (qdk7_11 GW307) _).trans (((cell_far (p := ⟨gb307, _, none⟩) (qdk7_11 GW307) _).trans (((cell_far (p := ⟨gb307, _, none⟩) (qdk7_11 GW307) _).trans (hHeld.2.2.2.2.2.2))))))))⟩ (fun hHeld => ?_)
      clear hK K
      refine done_ (done_of HT_.out qdk7_18) ?_
      try go_wp2
      have n0_ : Aside0 (((((w19.setCell ⟨gb307, 0, none⟩ (.int .u64 ((rd_T62 l1_1 t304).f0))).setCell ⟨gb307, 1, none⟩ (.int .i64 ((rd_T62 l1_1 t304).f1))).setCell ⟨gb307, 2, none⟩ (.int .i64 ((rd_T62 l1_1 t304).f2))).setCell ⟨gb307, 3, none⟩ (.bool ((rd_T62 l1_1 t304).f3))).heap[gb301]? = some (.cells #[.slice A1_0 l1_0.length c1_0, .slice (some ad306) l1_1.length c1_1, .int .i64 a1_2] 25 (0, 0))) := ⟨(by (with_reducible repeat (first | refine blk_drewN ?_ _ | refine blk_drew ?_ | refine blk_alloc ?_ _)); refine blk_far ?_ NB301_307.out _; (with_reducible repeat (first | refine blk_drewN ?_ _ | refine blk_drew ?_ | refine blk_alloc ?_ _)); refine blk_far ?_ NB301_307.out _; (with_reducible repeat (first | refine blk_drewN ?_ _ | refine blk_drew ?_ | refine blk_alloc ?_ _)); refine blk_far ?_ NB301_307.out _; (with_reducible repeat (first | refine blk_drewN ?_ _ | refine blk_drew ?_ | refine blk_alloc ?_ _)); refine blk_far ?_ NB301_307.out _; (with_reducible repeat (first | refine blk_drewN ?_ _ | refine blk_drew ?_ | refine blk_alloc ?_ _)); exact BK301.out)⟩
      have n1_ : Aside0 (((((w19.setCell ⟨gb307, 0, none⟩ (.int .u64 ((rd_T62 l1_1 t304).f0))).setCell ⟨gb307, 1, none⟩ (.int .i64 ((rd_T62 l1_1 t304).f1))).setCell ⟨gb307, 2, none⟩ (.int .i64 ((rd_T62 l1_1 t304).f2))).setCell ⟨gb307, 3, none⟩ (.bool ((rd_T62 l1_1 t304).f3))).heap[gb307]? = some (.cells #[.int .u64 ((rd_T62 l1_1 t304).f0), .int .i64 ((rd_T62 l1_1 t304).f1), .int .i64 ((rd_T62 l1_1 t304).f2), .bool ((rd_T62 l1_1 t304).f3)] 62 (0, 0))) := ⟨(by (with_reducible repeat (first | refine blk_drewN ?_ _ | refine blk_drew ?_ | refine blk_alloc ?_ _)); refine blk_put (cs := #[.int .u64 ((rd_T62 l1_1 t304).f0), .int .i64 ((rd_T62 l1_1 t304).f1), .int .i64 ((rd_T62 l1_1 t304).f2), .bool false]) ?_ 3 _ rfl; (with_reducible repeat (first | refine blk_drewN ?_ _ | refine blk_drew ?_ | refine blk_alloc ?_ _)); refine blk_put (cs := #[.int .u64 ((rd_T62 l1_1 t304).f0), .int .i64 ((rd_T62 l1_1 t304).f1), .int .i64 0, .bool false]) ?_ 2 _ rfl; (with_reducible repeat (first | refine blk_drewN ?_ _ | refine blk_drew ?_ | refine blk_alloc ?_ _)); refine blk_put (cs := #[.int .u64 ((rd_T62 l1_1 t304).f0), .int .i64 0, .int .i64 0, .bool false]) ?_ 1 _ rfl; (with_reducible repeat (first | refine blk_drewN ?_ _ | refine blk_drew ?_ | refine blk_alloc ?_ _)); refine blk_put (cs := #[.int .u64 0, .int .i64 0, .int .i64 0, .bool false]) ?_ 0 _ rfl; (with_reducible repeat (first | refine blk_drewN ?_ _ | refine blk_drew ?_ | refine blk_alloc ?_ _)); exact BK307.out)⟩
      have n2_ : Aside0 (IsS94 w0 ((((w19.setCell ⟨gb307, 0, none⟩ (.int .u64 ((rd_T62 l1_1 t304).f0))).setCell ⟨gb307, 1, none⟩ (.int .i64 ((rd_T62 l1_1 t304).f1))).setCell ⟨gb307, 2, none⟩ (.int .i64 ((rd_T62 l1_1 t304).f2))).setCell ⟨gb307, 3, none⟩ (.bool ((rd_T62 l1_1 t304).f3))) g s0_0 t305) := ⟨(rdk7_9 HI0 NB0_301 NB0_307)⟩
      have n3_ : Aside0 (KeepBut w ((((w19.setCell ⟨gb307, 0, none⟩ (.int .u64 ((rd_T62 l1_1 t304).f0))).setCell ⟨gb307, 1, none⟩ (.int .i64 ((rd_T62 l1_1 t304).f1))).setCell ⟨gb307, 2, none⟩ (.int .i64 ((rd_T62 l1_1 t304).f2))).setCell ⟨gb307, 3, none⟩ (.bool ((rd_T62 l1_1 t304).f3))) g none) := ⟨(by repeat (first | (with_reducible first | exact HK.out | apply KeepBut.set_ | apply keep_drewN | apply keep_drew | apply keep_alloc | refine keep_far ?_ GW301.out _ | refine keep_far ?_ GW307.out _) | exact HK.out))⟩
      have n4_ : Aside0 (Below w0.heap.size w0 ((((w19.setCell ⟨gb307, 0, none⟩ (.int .u64 ((rd_T62 l1_1 t304).f0))).setCell ⟨gb307, 1, none⟩ (.int .i64 ((rd_T62 l1_1 t304).f1))).setCell ⟨gb307, 2, none⟩ (.int .i64 ((rd_T62 l1_1 t304).f2))).setCell ⟨gb307, 3, none⟩ (.bool ((rd_T62 l1_1 t304).f3)))) := ⟨(rdk7_7 HB HI0 GE301 GE307)⟩
      (try clear BK301)
      (try clear BK307)
      (try clear HI0)
      (try clear HK)
      (try clear HB)
      generalize ((((w19.setCell ⟨gb307, 0, none⟩ (.int .u64 ((rd_T62 l1_1 t304).f0))).setCell ⟨gb307, 1, none⟩ (.int .i64 ((rd_T62 l1_1 t304).f1))).setCell ⟨gb307, 2, none⟩ (.int .i64 ((rd_T62 l1_1 t304).f2))).setCell ⟨gb307, 3, none⟩ (.bool ((rd_T62 l1_1 t304).f3))) = w24 at n0_ n1_ n2_ n3_ n4_ ⊢
      have BK301 := n0_
      have BK307 := n1_
      have HI0 := n2_
      have HK := n3_
      have HB := n4_
      clear n0_ n1_ n2_ n3_ n4_
      have n0_ := Aside0.mk (blk_drew BK301.out)
      have n1_ := Aside0.mk (blk_drew BK307.out)
      have n2_ := Aside0.mk (IsS94.drew HI0.out)
      have n3_ := Aside0.mk (keep_drew HK.out)
      have n4_ := Aside0.mk (below_drew1 HB.out)
      clear BK301 BK307 HI0 HK HB
      have BK301 := n0_
      have BK307 := n1_
      have HI0 := n2_
      have HK := n3_
      have HB := n4_
      clear n0_ n1_ n2_ n3_ n4_
      refine start_ (n := 6) (S := fun w' => w'.cell? ⟨gb307, 0, none⟩ = some (.int .u64 ((rd_T62 l1_1 t304).f0)) ∧ w'.cell? ⟨gb307, 1, none⟩ = some (.int .i64 ((rd_T62 l1_1 t304).f1)) ∧ w'.cell? ⟨gb307, 2, none⟩ = some (.int .i64 ((rd_T62 l1_1 t304).f2)) ∧ w'.cell? ⟨gb307, 3, none⟩ = some (.bool ((rd_T62 l1_1 t304).f3))) (ds := []) (bs_ 6 0) qdk7_18 rfl rfl ⟨(blk_cell BK307.out 0).trans rfl, (blk_cell BK307.out 1).trans rfl, (blk_cell BK307.out 2).trans rfl, (blk_cell BK307.out 3).trans rfl⟩ (fun hHeld => ?_)
      generalize w24.drew = w25 at BK301 BK307 HI0 HK HB hHeld ⊢
      refine pure_ (i := 0) (N := some 25) (bs_ 6 1) rfl rfl qdk7_18 (fun _ _ _ h => h) (Or.inl ⟨by rfl, qpy_pdkx7⟩) qpa_pdkx7 ?_
      refine pure_ (i := 2) (N := some 27) (bs_ 6 5) rfl rfl qdk7_18 (fun _ _ _ h => h) (Or.inl ⟨by rfl, qpy_pdkx7⟩) qpa_pdkx7 ?_
      refine take_ (i := 1) (N := some 26) (bs_ 6 7) rfl rfl qdk7_18 (fun _ _ _ h => h) (Or.inl ⟨by rfl, qpt4_pdkx7⟩) hHeld qpa_pdkx7 ?_
      refine pure_ (i := 4) (N := some 4) (bs_ 6 23) rfl rfl qdk7_18 (fun _ _ _ h => h) (Or.inl ⟨by rfl, qpy_pdkx7⟩) qpa_pdkx7 ?_
      refine take_ (i := 3) (N := some 28) (bs_ 6 31) rfl rfl qdk7_18 (fun _ _ _ h => h) (Or.inl ⟨by rfl, qpt4_pdkx7⟩) hHeld qpa_pdkx7 ?_
      refine pure_ (i := 5) (N := some 5) (bs_ 6 63) rfl rfl qdk7_18 (fun _ _ _ h => h) (Or.inl ⟨by rfl, qpy_pdkx7⟩) qpa_pdkx7 ?_
      refine done_ qdk7_18 ?_
      try go_wp2
      go_ret2
      exact ⟨rdk7_4, (rdk7_9 HI0 NB0_301 NB0_307), (rdk7_7 HB HI0 GE301 GE307), (by repeat (first | (with_reducible first | exact HK.out | apply KeepBut.set_ | apply keep_drewN | apply keep_drew | apply keep_alloc | refine keep_far ?_ GW301.out _ | refine keep_far ?_ GW307.out _) | exact HK.out))⟩
     rw [if_neg c15] at H
     exact absurd H (by simp)
    rw [if_neg c14] at H
    exact absurd H (by simp)
   replace c12 := Bool.eq_false_iff.mpr c12
   subst c12
   have H1 : ((spec_l7DrawHash.f kj2 s0_0 x1001_2).bind fun bt308 => ((spec_l1Rd_below.f s0_0 bt308.2 30).bind fun bt310 => (some (bt308.1, bt310.1, bt310.2)))) = some (r1, r2, r3) := by rw [if_neg (show ¬ (false = true) by decide)] at H; exact H
   clear H
   have H := H1
   clear H1
   replace H := Option.bind_eq_some_iff.mp H
   obtain ⟨⟨t308, t309⟩, A260, H⟩ := H
   replace H : ((spec_l1Rd_below.f s0_0 t309 30).bind fun bt310 => (some (t308, bt310.1, bt310.2))) = some (r1, r2, r3) := H
   have A26 := Aside0.mk A260
   clear A260
   replace H := Option.bind_eq_some_iff.mp H
   obtain ⟨⟨t310, t311⟩, A270, H⟩ := H
   replace H : (some (t308, t310, t311)) = some (r1, r2, r3) := H
   have A27 := Aside0.mk A270
   clear A270
   simp only [Option.some.injEq, Prod.mk.injEq] at H
   obtain ⟨rfl, rfl, rfl⟩ := H
   go_wp2_with (first | ((with_reducible refine gate_callee (f := 78) rfl ?_); refine goesL_ (some 30) rfl rfl Try.func78 qdk7_18 rfl #[.pointer (some ⟨g, 0, none⟩)] rfl qdk7_2 ?_; (with_reducible refine (spec_l7DrawHash.calls kj2 g s0_0 x1001_2 t308 t309 w0 _ ?side1 ?side2 A26.out).mono ?_); (case side1 => exact (qdk7_14 NB0_301)); (case side2 => exact (qdk7_13 HB GE301)); rintro e w28 ⟨rfl, hi, hb, hk⟩; refine ⟨_, rfl, ?_⟩; have n0_ := Aside0.mk (KeepBut.blk hk (g' := gb301) (o := .cells #[.slice A1_0 l1_0.length c1_0, .slice A1_1 l1_1.length c1_1, .int .i64 a1_2] 25 (0, 0)) (qdk7_1 BK301) NB301_0.out (by simp)); have n1_ := Aside0.mk (KeepBut.trans (qdk7_3 HK GW301) hk (.inl rfl)); have n2_ := Aside0.mk (hb); have n3_ := Aside0.mk (hi); clear BK301 HK HB HI0; have BK301 := n0_; have HK := n1_; have HB := n2_; have HI0 := n3_; clear n0_ n1_ n2_ n3_; (try clear hb); (try clear hb2); (try clear hk); (try clear hi)) | ((with_reducible refine gate_callee (f := 47) rfl ?_); refine goesL_ (some 32) rfl rfl Try.func47 qdk7_18 rfl #[.pointer (some ⟨g, 0, none⟩), .int .i64 30] rfl qdk7_2 ?_; (with_reducible refine (spec_l1Rd_below.calls g s0_0 t309 30 t310 t311 w0 _ ?side1 ?side2 A27.out).mono ?_); (case side1 => exact (qdk7_14 NB0_301)); (case side2 => exact (qdk7_13 HB GE301)); rintro e w29 ⟨rfl, hi, hb, hk⟩; refine ⟨_, rfl, ?_⟩; have n0_ := Aside0.mk (KeepBut.blk hk (g' := gb301) (o := .cells #[.slice A1_0 l1_0.length c1_0, .slice A1_1 l1_1.length c1_1, .int .i64 a1_2] 25 (0, 0)) (qdk7_1 BK301) NB301_0.out (by simp)); have n1_ := Aside0.mk (KeepBut.trans (qdk7_3 HK GW301) hk (.inl rfl)); have n2_ := Aside0.mk (hb); have n3_ := Aside0.mk (hi); clear BK301 HK HB HI0; have BK301 := n0_; have HK := n1_; have HB := n2_; have HI0 := n3_; clear n0_ n1_ n2_ n3_; (try clear hb); (try clear hb2); (try clear hk); (try clear hi)))
   go_ret2
   exact ⟨rdk7_4, (rdk7_1 HI0 NB0_301), (rdk7_10 HB HI0 GE301), (rdk7_11 HK GW301)⟩
def spec_DrawDictFind.f (k : Nat) (l0 : List Int) : Option (List Int × (List (S62)) × Int × Int × Int) := (spec_l1Open.f l0).bind fun bt313 => ((spec_l7DrawAny.f k bt313.1 bt313.2).bind fun bt316 => ((spec_l7DrawKey.f k bt313.1 bt316.2.2.2 bt316.1 bt316.2.1 bt316.2.2.1).bind fun bt325 => (some (bt316.1, bt316.2.1, bt316.2.2.1, bt325.1, bt325.2.1))))
set_option maxHeartbeats 8000000 in
set_option maxRecDepth 100000 in
theorem spec_DrawDictFind.calls (k : Nat) (A0 : Option Addr) (c0 : Nat) (l0 : List Int) (r1 : List Int) (r2 : List (S62)) (r3 : Int) (r4 : Int) (r5 : Int) (w : World) (hr0 : Kd.C (Kd.int .u8) w A0 l0.length l0) (hc0 : l0.length ≤ c0) (h : spec_DrawDictFind.f k l0 = some (r1, r2, r3, r4, r5)) :
  Calls Try.prog 65 #[.slice A0 l0.length c0] w fun e w' => ∃ v0_ v1_ : Value, e = .returned (.tuple #[.agg #[v0_, v1_, .int .i64 r3], .int .u64 r4, .int .i64 r5]) ∧ Kd.R (Kd.int .i64) 2 w' w.heap.size (fun _ => True) v0_ r1 ∧ Kd.R k62 62 w' w.heap.size (fun _ => True) v1_ r2 ∧ Below w.heap.size w w' := by
 have hu25 := Try.underlying25
 have HR0 := Aside0.mk hr0
 have HC0 := Aside0.mk hc0
 clear hr0 hc0
 have HB := Aside0.mk (Below.refl w.heap.size w)
 have H : ((spec_l1Open.f l0).bind fun bt313 => ((spec_l7DrawAny.f k bt313.1 bt313.2).bind fun bt316 => ((spec_l7DrawKey.f k bt313.1 bt316.2.2.2 bt316.1 bt316.2.1 bt316.2.2.1).bind fun bt325 => (some (bt316.1, bt316.2.1, bt316.2.2.1, bt325.1, bt325.2.1))))) = some (r1, r2, r3, r4, r5) := h
 clear h
 replace H := Option.bind_eq_some_iff.mp H
 obtain ⟨⟨t313, t314⟩, A20, H⟩ := H
 replace H : ((spec_l7DrawAny.f k t313 t314).bind fun bt316 => ((spec_l7DrawKey.f k t313 bt316.2.2.2 bt316.1 bt316.2.1 bt316.2.2.1).bind fun bt325 => (some (bt316.1, bt316.2.1, bt316.2.2.1, bt325.1, bt325.2.1)))) = some (r1, r2, r3, r4, r5) := H
 have A2 := Aside0.mk A20
 clear A20
 replace H := Option.bind_eq_some_iff.mp H
 obtain ⟨⟨t316, t319, t322, t323⟩, A30, H⟩ := H
 replace H : ((spec_l7DrawKey.f k t313 t323 t316 t319 t322).bind fun bt325 => (some (t316, t319, t322, bt325.1, bt325.2.1))) = some (r1, r2, r3, r4, r5) := H
 have A3 := Aside0.mk A30
 clear A30
 replace H := Option.bind_eq_some_iff.mp H
 obtain ⟨⟨t325, t326, t327⟩, A40, H⟩ := H
 replace H : (some (t316, t319, t322, t325, t326)) = some (r1, r2, r3, r4, r5) := H
 have A4 := Aside0.mk A40
 clear A40
 simp only [Option.some.injEq, Prod.mk.injEq] at H
 obtain ⟨rfl, rfl, rfl, rfl, rfl⟩ := H
 go_enter Try.func65, Try.ntmps65
 go_wp2_with (first | ((with_reducible refine gate_dst (N := 2) rfl ?_); refine box_event ?hg (N := 2) ?hd (cs := #[.slice none 0 0, .slice none 0 0, .int .i64 0]) (t := 25) ?hr ?_; (case hd => rfl); (case hg => rfl); (case hr => exact qdk7_23); intro gb312 hg w5 hbox hb; have n0_ := Aside0.mk (below_step (qdk7_17 HB) hb); have n1_ := Aside0.mk (hbox); have n2_ := Aside0.mk ((by rw [hg]; exact (below_size (qdk7_17 HB)) : w.heap.size ≤ gb312)); have n3_ := Aside0.mk ((by rw [hg]; exact (below_size (qdk7_17 HB)) : w.heap.size ≤ gb312)); clear HB; have HB := n0_; have BK312 := n1_; have GW312 := n2_; have GE312 := n3_; clear n0_ n1_ n2_ n3_; clear hb hbox hg) | ((with_reducible refine gate_callee (f := 44) rfl ?_); refine goesL_ (some 10) rfl rfl Try.func44 qdk7_18 rfl #[.slice A0 l0.length c0] rfl qdk7_2 ?_; (with_reducible refine (spec_l1Open.calls _ _ l0 t313 t314 w _ ?side1 ?side2 ?side3 A2.out).mono ?_); (case side1 => exact (qdk7_15 HB GE312)); (case side2 => exact HR0.out); (case side3 => exact HC0.out); rintro e w6 ⟨g315, rfl, hi, hb, hb2⟩; refine ⟨_, rfl, ?_⟩; have n0_ := Aside0.mk (blk_below (qdk7_1 BK312) hb2); have n1_ := Aside0.mk (hb); have n2_ := Aside0.mk (hi); have n3_ := Aside0.mk (IsS94.ne_blk hi (blk_below (qdk7_1 BK312) hb2) (by decide)); have n4_ := Aside0.mk (Ne.symm (IsS94.ne_blk hi (blk_below (qdk7_1 BK312) hb2) (by decide))); clear BK312 HB; have BK312 := n0_; have HB := n1_; have HI315 := n2_; have NB315_312 := n3_; have NB312_315 := n4_; clear n0_ n1_ n2_ n3_ n4_; (try clear hb); (try clear hb2); (try clear hk); (try clear hi)) | ((with_reducible refine gate_callee (f := 75) rfl ?_); refine goesL_ (some 12) rfl rfl Try.func75 qdk7_18 rfl #[.pointer (some ⟨g315, 0, none⟩)] rfl qdk7_2 ?_; (with_reducible refine (spec_l7DrawAny.calls k g315 t313 t314 t316 t319 t322 t323 w _ ?side1 ?side2 A3.out).mono ?_); (case side1 => exact (rdk7_1 HI315 NB315_312)); (case side2 => exact (qdk7_12 HB GE312)); rintro e w7 ⟨v317, v320, rfl, ho0, ho1, hi, hb, hk⟩; refine ⟨_, rfl, ?_⟩; have n0_ := Aside0.mk (KeepBut.blk hk (g' := gb312) (o := .cells #[.slice none 0 0, .slice none 0 0, .int .i64 0] 25 (0, 0)) (qdk7_1 BK312) NB312_315.out (by simp)); have n1_ := Aside0.mk (Kd.R_lower ho0 (below_size (qdk7_12 HB GE312))); have n2_ := Aside0.mk (Kd.R_lower ho1 (below_size (qdk7_12 HB GE312))); have n3_ := Aside0.mk (hb); have n4_ := Aside0.mk (hi); clear BK312 HB HI315; have BK312 := n0_; have HO318 := n1_; have HO321 := n2_; have HB := n3_; have HI315 := n4_; clear n0_ n1_ n2_ n3_ n4_; (try clear hb); (try clear hb2); (try clear hk); (try clear hi); (try clear ho0); (try clear ho1)) | ((with_reducible refine gate_dst (N := 6) rfl ?_); refine box_event ?hg (N := 6) ?hd (cs := #[.slice none 0 0, .slice none 0 0, .int .i64 0]) (t := 25) ?hr ?_; (case hd => rfl); (case hg => rfl); (case hr => exact qdk7_23); intro gb324 hg w8 hbox hb; have n0_ := Aside0.mk (Kd.R_below (qdk7_19 HO318) hb); have n1_ := Aside0.mk (Kd.R_below (qdk7_19 HO321) hb); have n2_ := Aside0.mk (blk_below (qdk7_1 BK312) hb); have n3_ := Aside0.mk (IsS94.below (rdk7_1 HI315 NB315_312) hb); have n4_ := Aside0.mk (below_step (qdk7_12 HB GE312) hb); have n5_ := Aside0.mk (hbox); have n6_ := Aside0.mk ((by rw [hg]; exact (below_size (qdk7_12 HB GE312)) : w.heap.size ≤ gb324)); have n7_ := Aside0.mk ((by rw [hg]; exact (below_size (qdk7_12 HB GE312)) : w.heap.size ≤ gb324)); have n8_ := Aside0.mk ((qnl_pdkx7 BK312 hg : gb312 ≠ gb324)); have n9_ := Aside0.mk ((qng_pdkx7 BK312 hg : gb324 ≠ gb312)); have n10_ := Aside0.mk ((by rw [hg]; exact Nat.ne_of_lt (IsS94.lt (show IsS94 w _ g315 t313 t323 from by repeat (first | (with_reducible first | exact HI315.out | apply IsS94.alloc | apply IsS94.drewN | apply IsS94.drew | apply IsS94.set_1 | refine IsS94.far ?_ NB315_312.out _) | exact HI315.out))) : g315 ≠ gb324)); have n11_ := Aside0.mk ((by rw [hg]; exact Nat.ne_of_gt (IsS94.lt (show IsS94 w _ g315 t313 t323 from by repeat (first | (with_reducible first | exact HI315.out | apply IsS94.alloc | apply IsS94.drewN | apply IsS94.drew | apply IsS94.set_1 | refine IsS94.far ?_ NB315_312.out _) | exact HI315.out))) : gb324 ≠ g315)); clear HO318 HO321 BK312 HI315 HB; have HO318 := n0_; have HO321 := n1_; have BK312 := n2_; have HI315 := n3_; have HB := n4_; have BK324 := n5_; have GW324 := n6_; have GE324 := n7_; have NB312_324 := n8_; have NB324_312 := n9_; have NB315_324 := n10_; have NB324_315 := n11_; clear n0_ n1_ n2_ n3_ n4_ n5_ n6_ n7_ n8_ n9_ n10_ n11_; clear hb hbox hg; obtain ⟨Ao9, co9, eo9⟩ := Kd.R_slice HO318.out; subst eo9; have hnb10 := NB324_312.out; have hnc10 := NB312_324.out; have hnb11 := NB324_315.out; have hnc11 := NB315_324.out; have hcz12_0 : w8.cell? ⟨gb324, 0, none⟩ = some (.slice none 0 0) := (blk_cell BK324.out 0).trans rfl; have hcz12_1 : w8.cell? ⟨gb324, 1, none⟩ = some (.slice none 0 0) := (blk_cell BK324.out 1).trans rfl; have hcz12_2 : w8.cell? ⟨gb324, 2, none⟩ = some (.int .i64 0) := (blk_cell BK324.out 2).trans rfl; have hfz12_0 := blk_frozen BK324.out 0; have hfz12_1 := blk_frozen BK324.out 1; have hfz12_2 := blk_frozen BK324.out 2; obtain ⟨Ao13, co13, eo13⟩ := Kd.R_slice HO321.out; subst eo13) | ((with_reducible refine gate_callee (f := 76) rfl ?_); refine goesL_ (some 16) rfl rfl Try.func76 qdk7_18 rfl #[.pointer (some ⟨g315, 0, none⟩), .agg #[.slice Ao9 t316.length co9, .slice Ao13 t319.length co13, .int .i64 t322]] rfl qdk7_2 ?_; (with_reducible refine (spec_l7DrawKey.calls k g315 t313 t323 _ _ t316 _ _ t319 t322 t325 t326 t327 w _ ?side1 ?side2 ?side3 ?side4 ?side5 ?side6 ?side7 A4.out).mono ?_); (case side1 => exact (rdk7_9 HI315 NB315_312 NB315_324)); (case side2 => exact (rdk7_7 HB HI315 GE312 GE324)); (case side3 => exact (by refine (Kd.R_reads' (e := 2) (base := w.heap.size) (ok := fun k_ => True) (n := t316.length) (c := co9) ?_).2.2; exact (qdk7_5 HO318 BK324))); (case side4 => exact (Kd.R_reads' HO318.out).2.1); (case side5 => exact far_slice (IsS94.own_ne HI315.out HO318.out (by decide))); (case side6 => exact Kd.C_foot_own (IsS94.apart (show IsS94 w _ g315 t313 t323 from by repeat (first | (with_reducible first | exact HI315.out | apply IsS94.alloc | apply IsS94.drewN | apply IsS94.drew | apply IsS94.set_1 | refine IsS94.far ?_ NB315_312.out _ | refine IsS94.far ?_ NB315_324.out _) | exact HI315.out)) (qdk7_5 HO321 BK324) (by decide)) (fun _ h_ => h_.2)); (case side7 => exact (Kd.R_reads' HO321.out).2.1); rintro e w14 ⟨rfl, hi, hb, hk⟩; refine ⟨_, rfl, ?_⟩; have n0_ := Aside0.mk (KeepBut.blk hk (g' := gb312) (o := .cells #[.slice none 0 0, .slice none 0 0, .int .i64 0] 25 (0, 0)) (by (with_reducible repeat (first | refine blk_drewN ?_ _ | refine blk_drew ?_ | refine blk_alloc ?_ _)); refine blk_far ?_ NB312_324.out _; (with_reducible repeat (first | refine blk_drewN ?_ _ | refine blk_drew ?_ | refine blk_alloc ?_ _)); refine blk_far ?_ NB312_324.out _; (with_reducible repeat (first | refine blk_drewN ?_ _ | refine blk_drew ?_ | refine blk_alloc ?_ _)); refine blk_far ?_ NB312_324.out _; (with_reducible repeat (first | refine blk_drewN ?_ _ | refine blk_drew ?_ | refine blk_alloc ?_ _)); exact BK312.out) NB312_315.out (by simp)); have n1_ := Aside0.mk (Kd.R_mono (Kd.R_keep (IsS94.apart (show IsS94 w _ g315 t313 t323 from by repeat (first | (with_reducible first | exact HI315.out | apply IsS94.alloc | apply IsS94.drewN | apply IsS94.drew | apply IsS94.set_1 | refine IsS94.far ?_ NB315_312.out _ | refine IsS94.far ?_ NB315_324.out _) | exact HI315.out)) (qdk7_5 HO318 BK324) (by decide)) hk (fun _ h => h.2)) (fun _ h => h.1)); have n2_ := Aside0.mk (Kd.R_mono (Kd.R_keep (IsS94.apart (show IsS94 w _ g315 t313 t323 from by repeat (first | (with_reducible first | exact HI315.out | apply IsS94.alloc | apply IsS94.drewN | apply IsS94.drew | apply IsS94.set_1 | refine IsS94.far ?_ NB315_312.out _ | refine IsS94.far ?_ NB315_324.out _) | exact HI315.out)) (qdk7_5 HO321 BK324) (by decide)) hk (fun _ h => h.2)) (fun _ h => h.1)); have n3_ := Aside0.mk (KeepBut.blk hk (g' := gb324) (o := .cells #[.slice Ao9 t316.length co9, .slice Ao13 t319.length co13, .int .i64 t322] 25 (0, 0)) (qdk7_16 BK324) NB324_315.out (by simp)); have n4_ := Aside0.mk (hb); have n5_ := Aside0.mk (hi); clear BK312 HO318 HO321 BK324 HB HI315; have BK312 := n0_; have HO318 := n1_; have HO321 := n2_; have BK324 := n3_; have HB := n4_; have HI315 := n5_; clear n0_ n1_ n2_ n3_ n4_ n5_; (try clear hb); (try clear hb2); (try clear hk); (try clear hi); have hcz15_0 : w14.cell? ⟨gb324, 0, none⟩ = some (.slice Ao9 t316.length co9) := (blk_cell BK324.out 0).trans rfl; have hcz15_1 : w14.cell? ⟨gb324, 1, none⟩ = some (.slice Ao13 t319.length co13) := (blk_cell BK324.out 1).trans rfl; have hcz15_2 : w14.cell? ⟨gb324, 2, none⟩ = some (.int .i64 t322) := (blk_cell BK324.out 2).trans rfl; have hfz15_0 := blk_frozen BK324.out 0; have hfz15_1 := blk_frozen BK324.out 1; have hfz15_2 := blk_frozen BK324.out 2; have hnb16 := NB312_315.out; have hnc16 := NB315_312.out; have hcz17_0 : w14.cell? ⟨gb312, 0, none⟩ = some (.slice none 0 0) := (blk_cell BK312.out 0).trans rfl; have hcz17_1 : w14.cell? ⟨gb312, 1, none⟩ = some (.slice none 0 0) := (blk_cell BK312.out 1).trans rfl; have hcz17_2 : w14.cell? ⟨gb312, 2, none⟩ = some (.int .i64 0) := (blk_cell BK312.out 2).trans rfl; have hfz17_0 := blk_frozen BK312.out 0; have hfz17_1 := blk_frozen BK312.out 1; have hfz17_2 := blk_frozen BK312.out 2))
 refine bodyPost_ret (results_ctt rfl _ _ gb312 25 #[.slice Ao9 t316.length co9, .slice Ao13 t319.length co13, .int .i64 t322] (0, 0) _ rfl (qdk7_16 BK312) Try.underlying25 rfl qdk7_18) rfl ?_
 exact ⟨_, _, rdk7_4, (rdk7_8 HO318 BK312), (rdk7_8 HO321 BK312), (rdk7_7 HB HI315 GE312 GE324)⟩
def spec_DrawDictPut.f (k : Nat) (l0 : List Int) : Option (List Int × (List (S62)) × Int × Int × Int × Int) := (spec_DrawDictFind.f k l0).bind fun bt329 => (some (bt329.1, bt329.2.1, bt329.2.2.1, bt329.2.2.2.1, bt329.2.2.2.2, (l0.length : Int)))
set_option maxHeartbeats 8000000 in
set_option maxRecDepth 100000 in
theorem spec_DrawDictPut.calls (k : Nat) (A0 : Option Addr) (c0 : Nat) (l0 : List Int) (r1 : List Int) (r2 : List (S62)) (r3 : Int) (r4 : Int) (r5 : Int) (r6 : Int) (w : World) (hr0 : Kd.C (Kd.int .u8) w A0 l0.length l0) (hc0 : l0.length ≤ c0) (h : spec_DrawDictPut.f k l0 = some (r1, r2, r3, r4, r5, r6)) :
  Calls Try.prog 35 #[.slice A0 l0.length c0] w fun e w' => ∃ v0_ v1_ : Value, e = .returned (.tuple #[.agg #[v0_, v1_, .int .i64 r3], .int .u64 r4, .int .i64 r5, .int .i64 r6]) ∧ Kd.R (Kd.int .i64) 2 w' w.heap.size (fun _ => True) v0_ r1 ∧ Kd.R k62 62 w' w.heap.size (fun _ => True) v1_ r2 ∧ Below w.heap.size w w' := by
 have hu25 := Try.underlying25
 have HR0 := Aside0.mk hr0
 have HC0 := Aside0.mk hc0
 clear hr0 hc0
 have HB := Aside0.mk (Below.refl w.heap.size w)
 have H : ((spec_DrawDictFind.f k l0).bind fun bt329 => (some (bt329.1, bt329.2.1, bt329.2.2.1, bt329.2.2.2.1, bt329.2.2.2.2, (l0.length : Int)))) = some (r1, r2, r3, r4, r5, r6) := h
 clear h
 replace H := Option.bind_eq_some_iff.mp H
 obtain ⟨⟨t329, t332, t335, t336, t337⟩, A20, H⟩ := H
 replace H : (some (t329, t332, t335, t336, t337, (l0.length : Int))) = some (r1, r2, r3, r4, r5, r6) := H
 have A2 := Aside0.mk A20
 clear A20
 simp only [Option.some.injEq, Prod.mk.injEq] at H
 obtain ⟨rfl, rfl, rfl, rfl, rfl, rfl⟩ := H
 go_enter Try.func35, Try.ntmps35
 go_wp2_with (first | ((with_reducible refine gate_dst (N := 2) rfl ?_); refine box_event ?hg (N := 2) ?hd (cs := #[.slice none 0 0, .slice none 0 0, .int .i64 0]) (t := 25) ?hr ?_; (case hd => rfl); (case hg => rfl); (case hr => exact qdk7_23); intro gb328 hg w3 hbox hb; have n0_ := Aside0.mk (below_step (qdk7_17 HB) hb); have n1_ := Aside0.mk (hbox); have n2_ := Aside0.mk ((by rw [hg]; exact (below_size (qdk7_17 HB)) : w.heap.size ≤ gb328)); have n3_ := Aside0.mk ((by rw [hg]; exact (below_size (qdk7_17 HB)) : w.heap.size ≤ gb328)); clear HB; have HB := n0_; have BK328 := n1_; have GW328 := n2_; have GE328 := n3_; clear n0_ n1_ n2_ n3_; clear hb hbox hg) | ((with_reducible refine gate_callee (f := 65) rfl ?_); refine goesL_ (some 11) rfl rfl Try.func65 qdk7_18 rfl #[.slice A0 l0.length c0] rfl qdk7_2 ?_; (with_reducible refine (spec_DrawDictFind.calls k _ _ l0 t329 t332 t335 t336 t337 _ ?side1 ?side2 A2.out).mono ?_); (case side1 => exact (by repeat (first | exact (Kd.C_below HR0.out HB.out) | (with_reducible refine Kd.C_alloc ?_ _) | (with_reducible refine Kd.C_drewN ?_ _) | (with_reducible refine Kd.C_drew ?_)))); (case side2 => exact HC0.out); rintro e w4 ⟨v330, v333, rfl, ho0, ho1, hb⟩; refine ⟨_, rfl, ?_⟩; have n0_ := Aside0.mk (Kd.R_lower ho0 (below_size (qdk7_15 HB GE328))); have n1_ := Aside0.mk (Kd.R_lower ho1 (below_size (qdk7_15 HB GE328))); have n2_ := Aside0.mk (blk_below (qdk7_1 BK328) hb); have n3_ := Aside0.mk (below_step (qdk7_15 HB GE328) hb); clear BK328 HB; have HO331 := n0_; have HO334 := n1_; have BK328 := n2_; have HB := n3_; clear n0_ n1_ n2_ n3_; (try clear hb); (try clear hb2); (try clear hk); (try clear hi); (try clear ho0); (try clear ho1)) | ((with_reducible refine gate_dst (N := 6) rfl ?_); refine box_event ?hg (N := 6) ?hd (cs := #[.slice none 0 0, .slice none 0 0, .int .i64 0]) (t := 25) ?hr ?_; (case hd => rfl); (case hg => rfl); (case hr => exact qdk7_23); intro gb338 hg w5 hbox hb; have n0_ := Aside0.mk (Kd.R_below (qdk7_19 HO331) hb); have n1_ := Aside0.mk (Kd.R_below (qdk7_19 HO334) hb); have n2_ := Aside0.mk (blk_below (qdk7_1 BK328) hb); have n3_ := Aside0.mk (below_step (qdk7_15 HB GE328) hb); have n4_ := Aside0.mk (hbox); have n5_ := Aside0.mk ((by rw [hg]; exact (below_size (qdk7_15 HB GE328)) : w.heap.size ≤ gb338)); have n6_ := Aside0.mk ((by rw [hg]; exact (below_size (qdk7_15 HB GE328)) : w.heap.size ≤ gb338)); have n7_ := Aside0.mk ((qnl_pdkx7 BK328 hg : gb328 ≠ gb338)); have n8_ := Aside0.mk ((qng_pdkx7 BK328 hg : gb338 ≠ gb328)); clear HO331 HO334 BK328 HB; have HO331 := n0_; have HO334 := n1_; have BK328 := n2_; have HB := n3_; have BK338 := n4_; have GW338 := n5_; have GE338 := n6_; have NB328_338 := n7_; have NB338_328 := n8_; clear n0_ n1_ n2_ n3_ n4_ n5_ n6_ n7_ n8_; clear hb hbox hg; obtain ⟨Ao6, co6, eo6⟩ := Kd.R_slice HO331.out; subst eo6; have hnb7 := NB338_328.out; have hnc7 := NB328_338.out; have hcz8_0 : w5.cell? ⟨gb338, 0, none⟩ = some (.slice none 0 0) := (blk_cell BK338.out 0).trans rfl; have hcz8_1 : w5.cell? ⟨gb338, 1, none⟩ = some (.slice none 0 0) := (blk_cell BK338.out 1).trans rfl; have hcz8_2 : w5.cell? ⟨gb338, 2, none⟩ = some (.int .i64 0) := (blk_cell BK338.out 2).trans rfl; have hfz8_0 := blk_frozen BK338.out 0; have hfz8_1 := blk_frozen BK338.out 1; have hfz8_2 := blk_frozen BK338.out 2; obtain ⟨Ao9, co9, eo9⟩ := Kd.R_slice HO334.out; subst eo9; have hcz10_0 : w5.cell? ⟨gb328, 0, none⟩ = some (.slice none 0 0) := (blk_cell BK328.out 0).trans rfl; have hcz10_1 : w5.cell? ⟨gb328, 1, none⟩ = some (.slice none 0 0) := (blk_cell BK328.out 1).trans rfl; have hcz10_2 : w5.cell? ⟨gb328, 2, none⟩ = some (.int .i64 0) := (blk_cell BK328.out 2).trans rfl; have hfz10_0 := blk_frozen BK328.out 0; have hfz10_1 := blk_frozen BK328.out 1; have hfz10_2 := blk_frozen BK328.out 2))
 refine bodyPost_ret (results_list (rs := [.cell 2 25, .tmp 3, .tmp 4, .tmp 5]) rfl (by simp) (.cell gb328 25 #[.slice Ao6 t329.length co6, .slice Ao9 t332.length co9, .int .i64 t335] (0, 0) _ rfl (by (with_reducible repeat (first | refine blk_drewN ?_ _ | refine blk_drew ?_ | refine blk_alloc ?_ _)); refine blk_put (cs := #[.slice Ao6 t329.length co6, .slice Ao9 t332.length co9, .int .i64 0]) ?_ 2 _ rfl; (with_reducible repeat (first | refine blk_drewN ?_ _ | refine blk_drew ?_ | refine blk_alloc ?_ _)); refine blk_put (cs := #[.slice Ao6 t329.length co6, .slice none 0 0, .int .i64 0]) ?_ 1 _ rfl; (with_reducible repeat (first | refine blk_drewN ?_ _ | refine blk_drew ?_ | refine blk_alloc ?_ _)); refine blk_put (cs := #[.slice none 0 0, .slice none 0 0, .int .i64 0]) ?_ 0 _ rfl; (with_reducible repeat (first | refine blk_drewN ?_ _ | refine blk_drew ?_ | refine blk_alloc ?_ _)); refine blk_far ?_ NB328_338.out _; (with_reducible repeat (first | refine blk_drewN ?_ _ | refine blk_drew ?_ | refine blk_alloc ?_ _)); refine blk_far ?_ NB328_338.out _; (with_reducible repeat (first | refine blk_drewN ?_ _ | refine blk_drew ?_ | refine blk_alloc ?_ _)); refine blk_far ?_ NB328_338.out _; (with_reducible repeat (first | refine blk_drewN ?_ _ | refine blk_drew ?_ | refine blk_alloc ?_ _)); exact BK328.out) Try.underlying25 rfl qdk7_18 (.tmp (.tmp (.tmp .nil))))) rfl ?_
 exact ⟨_, _, rdk7_4, (rdk7_2 HO331 BK338 BK328), (rdk7_2 HO334 BK338 BK328), (by repeat (first | (with_reducible first | exact HB.out | apply below_alloc | apply pw_below_drewN | apply below_drew1 | refine below_set ?_ GE328.out | refine below_set ?_ GE338.out) | exact HB.out))⟩
end Go.Proofs.Ytohilfkdfcihgaa.PDi
