/- Go functions as Lean functions, and that each Go function comes to just that; printed by a program of this session (gprint.py over the kit's print.py). No condition. -/
import Derived.Test.YtohilfkdfcihgaaPDix0
import Derived.Test.YtohilfkdfcihgaaPDix2
namespace Go.Proofs.Ytohilfkdfcihgaa.PDi
open Go.RowKit Go.Proofs.YtohilfkdfcihgaaW.PrintWords Go.Proofs.YtohilfkdfcihgaaW.PrintLast Go.Proofs.YtohilfkdfcihgaaW.PrintMore
attribute [local go_sem] max2_int min2_int max_two min_two max_three min_three max_four min_four   -- for this text's walks alone
set_option linter.unusedVariables false
set_option linter.unusedSimpArgs false
theorem qpa_pdix4 {P : Prop} (h : P := by simp only [Act.put, List.setIfInBounds_toArray, List.set_cons_zero, List.set_cons_succ, i64_w, i32_w]; rfl) : P := h
theorem qnl_pdix4 {w : World} {g n : Nat} {cs : Array Value} {t : TypeId} {fr : Nat × Nat} {Q : Prop} (y : Q) (hg : n = w.heap.size) (h : Q → w.heap[g]? = some (.cells cs t fr) := by intro y_; (with_reducible repeat (first | refine blk_drewN ?_ _ | refine blk_drew ?_ | refine blk_alloc ?_ _)); exact y_.out) : g ≠ n := by
  rw [hg]; exact Nat.ne_of_lt (blk_lt (h y))
theorem qng_pdix4 {w : World} {g n : Nat} {cs : Array Value} {t : TypeId} {fr : Nat × Nat} {Q : Prop} (y : Q) (hg : n = w.heap.size) (h : Q → w.heap[g]? = some (.cells cs t fr) := by intro y_; (with_reducible repeat (first | refine blk_drewN ?_ _ | refine blk_drew ?_ | refine blk_alloc ?_ _)); exact y_.out) : n ≠ g := by
  rw [hg]; exact Nat.ne_of_gt (blk_lt (h y))
theorem qpy_pdix4 {P : Prop} (h : P := by intro w'; go_simp; with_reducible rfl) : P := h
theorem qpt8_pdix4 {P : Prop} (h : P := by rintro w' ⟨s0, s1, s2, s3, s4, s5, s6, s7⟩; go_simp; with_reducible rfl) : P := h
theorem rdi4_1 {P Q0 Q1 : Prop} (y0 : Q0) (y1 : Q1) (h : Q0 → Q1 → P := by intro y0_ y1_; (with_reducible repeat (first | refine blk_drewN ?_ _ | refine blk_drew ?_ | refine blk_alloc ?_ _)); refine blk_far ?_ y0_.out _; (with_reducible repeat (first | refine blk_drewN ?_ _ | refine blk_drew ?_ | refine blk_alloc ?_ _)); refine blk_far ?_ y0_.out _; (with_reducible repeat (first | refine blk_drewN ?_ _ | refine blk_drew ?_ | refine blk_alloc ?_ _)); refine blk_far ?_ y0_.out _; (with_reducible repeat (first | refine blk_drewN ?_ _ | refine blk_drew ?_ | refine blk_alloc ?_ _)); refine blk_far ?_ y0_.out _; (with_reducible repeat (first | refine blk_drewN ?_ _ | refine blk_drew ?_ | refine blk_alloc ?_ _)); exact y1_.out) : P := h y0 y1
theorem rdi4_2 {P Q0 Q1 Q2 : Prop} (y0 : Q0) (y1 : Q1) (y2 : Q2) (h : Q0 → Q1 → Q2 → P := by intro y0_ y1_ y2_; repeat (first | (with_reducible first | exact y0_.out | apply below_alloc | apply pw_below_drewN | apply below_drew1 | refine below_set ?_ y1_.out | refine below_set ?_ y2_.out) | exact y0_.out)) : P := h y0 y1 y2
theorem q4_13 {P : Prop} (h : P := by have := World.block_lt_of_cell? _ _ hw160_0; first | rwa [add_block] at this | exact this) : P := h
theorem q4_1 {P Q0 : Prop} (y0 : Q0) (h : Q0 → P := by intro y0_; first | exact Nat.ne_of_lt (Nat.lt_of_lt_of_le q4_13 y0_.out) | (rw [add_block]; exact Nat.ne_of_lt (Nat.lt_of_lt_of_le q4_13 y0_.out)) | (show (Addr.add _ _).block ≠ _; rw [add_block]; exact Nat.ne_of_lt (Nat.lt_of_lt_of_le q4_13 y0_.out)) | (dsimp only; exact Nat.ne_of_lt (Nat.lt_of_lt_of_le q4_13 y0_.out))) : P := h y0
theorem q4_14 {P : Prop} (h : P := by have := World.block_lt_of_cell? _ _ hw161_0; first | rwa [add_block] at this | exact this) : P := h
theorem q4_2 {P Q0 : Prop} (y0 : Q0) (h : Q0 → P := by intro y0_; first | exact Nat.ne_of_lt (Nat.lt_of_lt_of_le q4_14 y0_.out) | (rw [add_block]; exact Nat.ne_of_lt (Nat.lt_of_lt_of_le q4_14 y0_.out)) | (show (Addr.add _ _).block ≠ _; rw [add_block]; exact Nat.ne_of_lt (Nat.lt_of_lt_of_le q4_14 y0_.out)) | (dsimp only; exact Nat.ne_of_lt (Nat.lt_of_lt_of_le q4_14 y0_.out))) : P := h y0
theorem q4_15 {P : Prop} (h : P := by have := World.block_lt_of_cell? _ _ hw161_1; first | rwa [add_block] at this | exact this) : P := h
theorem q4_3 {P Q0 : Prop} (y0 : Q0) (h : Q0 → P := by intro y0_; first | exact Nat.ne_of_lt (Nat.lt_of_lt_of_le q4_15 y0_.out) | (rw [add_block]; exact Nat.ne_of_lt (Nat.lt_of_lt_of_le q4_15 y0_.out)) | (show (Addr.add _ _).block ≠ _; rw [add_block]; exact Nat.ne_of_lt (Nat.lt_of_lt_of_le q4_15 y0_.out)) | (dsimp only; exact Nat.ne_of_lt (Nat.lt_of_lt_of_le q4_15 y0_.out))) : P := h y0
theorem q4_16 {P : Prop} (h : P := by have := World.block_lt_of_cell? _ _ hw161_2; first | rwa [add_block] at this | exact this) : P := h
theorem q4_4 {P Q0 : Prop} (y0 : Q0) (h : Q0 → P := by intro y0_; first | exact Nat.ne_of_lt (Nat.lt_of_lt_of_le q4_16 y0_.out) | (rw [add_block]; exact Nat.ne_of_lt (Nat.lt_of_lt_of_le q4_16 y0_.out)) | (show (Addr.add _ _).block ≠ _; rw [add_block]; exact Nat.ne_of_lt (Nat.lt_of_lt_of_le q4_16 y0_.out)) | (dsimp only; exact Nat.ne_of_lt (Nat.lt_of_lt_of_le q4_16 y0_.out))) : P := h y0
theorem q4_17 {P : Prop} (h : P := by have := World.block_lt_of_cell? _ _ hw161_3; first | rwa [add_block] at this | exact this) : P := h
theorem q4_5 {P Q0 : Prop} (y0 : Q0) (h : Q0 → P := by intro y0_; first | exact Nat.ne_of_lt (Nat.lt_of_lt_of_le q4_17 y0_.out) | (rw [add_block]; exact Nat.ne_of_lt (Nat.lt_of_lt_of_le q4_17 y0_.out)) | (show (Addr.add _ _).block ≠ _; rw [add_block]; exact Nat.ne_of_lt (Nat.lt_of_lt_of_le q4_17 y0_.out)) | (dsimp only; exact Nat.ne_of_lt (Nat.lt_of_lt_of_le q4_17 y0_.out))) : P := h y0
theorem q4_6 {P Q0 Q1 : Prop} (y0 : Q0) (y1 : Q1) (h : Q0 → Q1 → P := by intro y0_ y1_; repeat (first | (with_reducible first | exact y0_.out | apply below_alloc | apply pw_below_drewN | apply below_drew1 | refine below_set ?_ y1_.out) | exact y0_.out)) : P := h y0 y1
theorem q4_7 {P : Prop} (h : P := by first | (with_reducible assumption) | assumption) : P := h
theorem q4_8 {P Q0 : Prop} (y0 : Q0) (h : Q0 → P := by intro y0_; (with_reducible repeat (first | refine blk_drewN ?_ _ | refine blk_drew ?_ | refine blk_alloc ?_ _)); exact y0_.out) : P := h y0
theorem q4_9 {P : Prop} (h : P := by kernel_rfl) : P := h
theorem q4_10 {P : Prop} (h : P := by first | rfl | (simp; done) | (simp [*]; done)) : P := h
theorem q4_11 {P : Prop} (h : P := by (try simp only [List.map_toArray, List.map_cons, List.map_nil]); first | done | rfl | (simp only [List.length_drop, List.length_take]; rfl)) : P := h
theorem q4_12 {P : Prop} (h : P := by have := World.block_lt_of_cell? _ _ hx164_0; first | rwa [add_block] at this | exact this) : P := h
theorem q4_18 {P Q0 : Prop} (y0 : Q0) (h : Q0 → P := by intro y0_; repeat (first | (with_reducible first | exact y0_.out | apply below_alloc | apply pw_below_drewN | apply below_drew1) | exact y0_.out)) : P := h y0
def spec_l7Find.l0 : Nat → Int → Int → Int → Int → Int → Int → List Int → List (S62) → Int → Option (Int × Int)
 | 0, _, _, _, _, _, _, _, _, _ => none
 | k + 1, x1, x2, x8, x9, x10, x11, x159000, x159001, x159002 => if 0 ≤ x9 then (if x9 < (x159000.length : Int) then (if (rd x159000 x9) ≥ 0 then (if 0 ≤ (rd x159000 x9) then (if (rd x159000 x9) < (x159001.length : Int) then (if ((rd_T62 x159001 (rd x159000 x9)).f3 = true) then ((spec_l7Next.f x9 x1 x11 x8).bind fun t163 => (spec_l7Find.l0 k x1 x2 x8 t163 (wrap64 (x10 + 1)) (wrap64 (x11 + 1)) x159000 x159001 x159002)) else (if ((rd_T62 x159001 (rd x159000 x9)).f0) = x1 then (if ((rd_T62 x159001 (rd x159000 x9)).f1) = x2 then (some (rd x159000 x9, x10)) else ((spec_l7Next.f x9 x1 x11 x8).bind fun t165 => (spec_l7Find.l0 k x1 x2 x8 t165 (wrap64 (x10 + 1)) (wrap64 (x11 + 1)) x159000 x159001 x159002))) else ((spec_l7Next.f x9 x1 x11 x8).bind fun t166 => (spec_l7Find.l0 k x1 x2 x8 t166 (wrap64 (x10 + 1)) (wrap64 (x11 + 1)) x159000 x159001 x159002)))) else (none)) else (none)) else (some ((-1), x10))) else (none)) else (none)
def spec_l7Find.f (k : Nat) (l0_0 : List Int) (l0_1 : List (S62)) (a0_2 : Int) (a1 : Int) (a2 : Int) : Option (Int × Int) := if (IntKind.u64.wrap ((l0_0.length : Int))) = 0 then (none) else (spec_l7Find.l0 k a1 a2 (IntKind.u64.wrap ((l0_0.length : Int))) (Int.tmod a1 (IntKind.u64.wrap ((l0_0.length : Int)))) 1 1 l0_0 l0_1 a0_2)
def spec_l7Find.T7 : Bool × List (List Nat × List Nat) := (true, [([], []), ([0], [0]), ([], []), ([2], [2]), ([], []), ([3, 4], [3, 4]), ([5], [5]), ([1, 6], [1, 6]), ([7], [7]), ([], []), ([9, 8, 0, 1, 2, 3, 4, 5, 6, 7, 8, 9], [8, 9])])
def spec_l7Find.B7 : List Nat := [0, 1, 0, 4, 0, 28, 60, 127, 255, 0, 1023]
theorem spec_l7Find.tab7 : rtab .any (opsOf Try.f55 7) = spec_l7Find.T7 := by kernel_rfl
theorem spec_l7Find.bits7 : waitsOk spec_l7Find.T7.2 spec_l7Find.B7 = true := by kernel_rfl
set_option maxHeartbeats 8000000 in
set_option maxRecDepth 100000 in
theorem spec_l7Find.calls (k : Nat) (A0_0 : Option Addr) (c0_0 : Nat) (l0_0 : List Int) (A0_1 : Option Addr) (c0_1 : Nat) (l0_1 : List (S62)) (a0_2 : Int) (a1 : Int) (a2 : Int) (r1 : Int) (r2 : Int) (w : World) (hr0_0 : Kd.C (Kd.int .i64) w A0_0 l0_0.length l0_0) (hc0_0 : l0_0.length ≤ c0_0) (hr0_1 : Kd.C k62 w A0_1 l0_1.length l0_1) (hc0_1 : l0_1.length ≤ c0_1) (h : spec_l7Find.f k l0_0 l0_1 a0_2 a1 a2 = some (r1, r2)) :
  Calls Try.prog 55 #[.agg #[.slice A0_0 l0_0.length c0_0, .slice A0_1 l0_1.length c0_1, .int .i64 a0_2], .int .u64 a1, .int .i64 a2] w fun e w' => e = .returned (.tuple #[.int .i64 r1, .int .i64 r2]) ∧ Below w.heap.size w w' := by
 have hu25 := Try.underlying25
 have hu62 := Try.underlying62
 have HR0_0 := Aside0.mk hr0_0
 have HC0_0 := Aside0.mk hc0_0
 clear hr0_0 hc0_0
 have HR0_1 := Aside0.mk hr0_1
 have HC0_1 := Aside0.mk hc0_1
 clear hr0_1 hc0_1
 have HB := Aside0.mk (Below.refl w.heap.size w)
 have H : (if (IntKind.u64.wrap ((l0_0.length : Int))) = 0 then (none) else (spec_l7Find.l0 k a1 a2 (IntKind.u64.wrap ((l0_0.length : Int))) (Int.tmod a1 (IntKind.u64.wrap ((l0_0.length : Int)))) 1 1 l0_0 l0_1 a0_2)) = some (r1, r2) := h
 clear h
 by_cases c4 : (IntKind.u64.wrap ((l0_0.length : Int))) = 0
 ·rw [if_pos c4] at H
  exact absurd H (by simp)
 rw [if_neg c4] at H
 have c4b0 : ((IntKind.u64.wrap ((l0_0.length : Int))) == 0) = false := beq_eq_false_iff_ne.mpr c4
 have c4b1 : ((IntKind.u64.wrap ((l0_0.length : Int))) != 0) = true := bne_iff_ne.mpr c4
 have H' := Aside0.mk H
 clear H
 go_enter Try.func55, Try.ntmps55
 go_wp2_with (first | ((with_reducible refine gate_dst (N := 3) rfl ?_); refine box_event ?hg (N := 3) ?hd (cs := #[.slice A0_0 l0_0.length c0_0, .slice A0_1 l0_1.length c0_1, .int .i64 a0_2]) (t := 25) ?hr ?_; (case hd => rfl); (case hg => rfl); (case hr => exact (by first | (go_simp; done) | (go_simp; rfl))); intro gb158 hg w5 hbox hb; have n0_ := Aside0.mk (below_step (q4_18 HB) hb); have n1_ := Aside0.mk (hbox); have n2_ := Aside0.mk ((by rw [hg]; exact (below_size (q4_18 HB)) : w.heap.size ≤ gb158)); have n3_ := Aside0.mk ((by rw [hg]; exact (below_size (q4_18 HB)) : w.heap.size ≤ gb158)); clear HB; have HB := n0_; have BK158 := n1_; have GW158 := n2_; have GE158 := n3_; clear n0_ n1_ n2_ n3_; clear hb hbox hg; have hcz6_0 : w5.cell? ⟨gb158, 0, none⟩ = some (.slice A0_0 l0_0.length c0_0) := (blk_cell BK158.out 0).trans rfl; have hcz6_1 : w5.cell? ⟨gb158, 1, none⟩ = some (.slice A0_1 l0_1.length c0_1) := (blk_cell BK158.out 1).trans rfl; have hcz6_2 : w5.cell? ⟨gb158, 2, none⟩ = some (.int .i64 a0_2) := (blk_cell BK158.out 2).trans rfl; have hfz6_0 := blk_frozen BK158.out 0; have hfz6_1 := blk_frozen BK158.out 1; have hfz6_2 := blk_frozen BK158.out 2))
 go_loopg [9, 10, 11] k (fun kq v9 v10 v11 w' => ∃ (x9_1 : Int) (x10_1 : Int) (x11_1 : Int), v9 = .int .u64 x9_1 ∧ v10 = .int .i64 x10_1 ∧ v11 = .int .i64 x11_1 ∧ Aside0 (spec_l7Find.l0 kq a1 a2 (IntKind.u64.wrap ((l0_0.length : Int))) x9_1 x10_1 x11_1 l0_0 l0_1 a0_2 = some (r1, r2)) ∧ Aside0 (kq ≤ k) ∧ Aside0 (w'.heap[gb158]? = some (.cells #[(.slice A0_0 l0_0.length c0_0), (.slice A0_1 l0_1.length c0_1), .int .i64 a0_2] 25 (0, 0))) ∧ Aside0 (Below w.heap.size w w'))
 case atStart => exact ⟨(Int.tmod a1 (IntKind.u64.wrap ((l0_0.length : Int)))), (1), (1), q4_10, q4_10, q4_10, H', ⟨Nat.le_refl _⟩, ⟨(by (with_reducible repeat (first | refine blk_drewN ?_ _ | refine blk_drew ?_ | refine blk_alloc ?_ _)); exact BK158.out)⟩, ⟨(by repeat (first | (with_reducible first | exact HB.out | apply below_alloc | apply pw_below_drewN | apply below_drew1 | refine below_set ?_ GE158.out) | exact HB.out))⟩⟩
 case round =>
  clear H'
  obtain ⟨x9_1, x10_1, x11_1, rfl, rfl, rfl, HA, HK1, BK158, HB⟩ := hrel
  cases gk with
  | zero => exact absurd HA.out (by simp [spec_l7Find.l0])
  | succ k1 =>
   have H := HA.out
   clear HA
   simp only [spec_l7Find.l0] at H
   by_cases c7 : 0 ≤ x9_1
   ·rw [if_pos c7] at H
    have c7b0 : decide (0 ≤ x9_1) = true := decide_eq_true c7
    clear c7
    by_cases c8 : x9_1 < (l0_0.length : Int)
    ·rw [if_pos c8] at H
     have c8b0 : decide (x9_1 < (l0_0.length : Int)) = true := decide_eq_true c8
     clear c8
     by_cases c9 : (rd l0_0 x9_1) ≥ 0
     ·rw [if_pos c9] at H
      have c9b0 : decide (0 ≤ (rd l0_0 x9_1)) = true := decide_eq_true c9
      clear c9
      by_cases c10 : 0 ≤ (rd l0_0 x9_1)
      ·rw [if_pos c10] at H
       have c10b0 : decide (0 ≤ (rd l0_0 x9_1)) = true := decide_eq_true c10
       clear c10
       by_cases c11 : (rd l0_0 x9_1) < (l0_1.length : Int)
       ·rw [if_pos c11] at H
        have c11b0 : decide ((rd l0_0 x9_1) < (l0_1.length : Int)) = true := decide_eq_true c11
        clear c11
        obtain ⟨bq12, hbq12⟩ : ∃ b_ : Bool, b_ = ((rd_T62 l0_1 (rd l0_0 x9_1)).f3) := ⟨_, rfl⟩
        replace H : (if (bq12 = true) then ((spec_l7Next.f x9_1 a1 x11_1 (IntKind.u64.wrap ((l0_0.length : Int)))).bind fun t163 => (spec_l7Find.l0 k1 a1 a2 (IntKind.u64.wrap ((l0_0.length : Int))) t163 (wrap64 (x10_1 + 1)) (wrap64 (x11_1 + 1)) l0_0 l0_1 a0_2)) else (if ((rd_T62 l0_1 (rd l0_0 x9_1)).f0) = a1 then (if ((rd_T62 l0_1 (rd l0_0 x9_1)).f1) = a2 then (some (rd l0_0 x9_1, x10_1)) else ((spec_l7Next.f x9_1 a1 x11_1 (IntKind.u64.wrap ((l0_0.length : Int)))).bind fun t165 => (spec_l7Find.l0 k1 a1 a2 (IntKind.u64.wrap ((l0_0.length : Int))) t165 (wrap64 (x10_1 + 1)) (wrap64 (x11_1 + 1)) l0_0 l0_1 a0_2))) else ((spec_l7Next.f x9_1 a1 x11_1 (IntKind.u64.wrap ((l0_0.length : Int)))).bind fun t166 => (spec_l7Find.l0 k1 a1 a2 (IntKind.u64.wrap ((l0_0.length : Int))) t166 (wrap64 (x10_1 + 1)) (wrap64 (x11_1 + 1)) l0_0 l0_1 a0_2)))) = some (r1, r2) := by rw [← hbq12] at H; exact H
        have Nbq12 := Aside0.mk hbq12
        clear hbq12
        by_cases c13 : (bq12 = true)
        ·subst c13
         have H1 : ((spec_l7Next.f x9_1 a1 x11_1 (IntKind.u64.wrap ((l0_0.length : Int)))).bind fun t163 => (spec_l7Find.l0 k1 a1 a2 (IntKind.u64.wrap ((l0_0.length : Int))) t163 (wrap64 (x10_1 + 1)) (wrap64 (x11_1 + 1)) l0_0 l0_1 a0_2)) = some (r1, r2) := by rw [if_pos rfl] at H; exact H
         clear H
         have H := H1
         clear H1
         replace H := Option.bind_eq_some_iff.mp H
         obtain ⟨t163, A140, H⟩ := H
         replace H : (spec_l7Find.l0 k1 a1 a2 (IntKind.u64.wrap ((l0_0.length : Int))) t163 (wrap64 (x10_1 + 1)) (wrap64 (x11_1 + 1)) l0_0 l0_1 a0_2) = some (r1, r2) := H
         have A14 := Aside0.mk A140
         clear A140
         have H' := Aside0.mk H
         clear H
         have hcz15_0 : wr.cell? ⟨gb158, 0, none⟩ = some (.slice A0_0 l0_0.length c0_0) := (blk_cell BK158.out 0).trans rfl
         have hcz15_1 : wr.cell? ⟨gb158, 1, none⟩ = some (.slice A0_1 l0_1.length c0_1) := (blk_cell BK158.out 1).trans rfl
         have hcz15_2 : wr.cell? ⟨gb158, 2, none⟩ = some (.int .i64 a0_2) := (blk_cell BK158.out 2).trans rfl
         have hfz15_0 := blk_frozen BK158.out 0
         have hfz15_1 := blk_frozen BK158.out 1
         have hfz15_2 := blk_frozen BK158.out 2
         have p159 : 0 ≤ (x9_1 : Int) := of_decide_eq_true q4_7
         have q159 : x9_1 < (l0_0.length : Int) := of_decide_eq_true q4_7
         obtain ⟨ad159, e159, hx159_0⟩ := Kd.at_int HR0_0.out x9_1 p159 q159
         cases e159
         replace hx159_0 := (HB.out.cell (World.block_lt_of_cell? w _ hx159_0)).trans hx159_0
         replace p159 := eq_true p159
         replace q159 := eq_true q159
         try go_wp2
         have n0_ := Aside0.mk (blk_drew BK158.out)
         have n1_ := Aside0.mk (below_drew1 HB.out)
         clear BK158 HB
         have BK158 := n0_
         have HB := n1_
         clear n0_ n1_
         have p160 : 0 ≤ (x9_1 : Int) := of_decide_eq_true q4_7
         have q160 : x9_1 < (l0_0.length : Int) := of_decide_eq_true q4_7
         obtain ⟨ad160, e160, hx160_0⟩ := Kd.at_int HR0_0.out x9_1 p160 q160
         have hw160_0 := hx160_0
         obtain rfl : ad159 = ad160 := (by injection e160)
         replace hx160_0 := (HB.out.cell (World.block_lt_of_cell? w _ hx160_0)).trans hx160_0
         replace p160 := eq_true p160
         replace q160 := eq_true q160
         have p161 : 0 ≤ ((rd l0_0 x9_1) : Int) := of_decide_eq_true q4_7
         have q161 : (rd l0_0 x9_1) < (l0_1.length : Int) := of_decide_eq_true q4_7
         obtain ⟨ad161, e161, hx161_0, hx161_1, hx161_2, hx161_3⟩ := at_T62 HR0_1.out (rd l0_0 x9_1) p161 q161
         have hw161_3 := hx161_3
         have hw161_2 := hx161_2
         have hw161_1 := hx161_1
         have hw161_0 := hx161_0
         (try rw [← Nbq12.out] at hx161_3)
         (try rw [← Nbq12.out] at hw161_3)
         cases e161
         replace hx161_0 := (HB.out.cell (World.block_lt_of_cell? w _ hx161_0)).trans hx161_0
         replace hx161_1 := (HB.out.cell (World.block_lt_of_cell? w _ hx161_1)).trans hx161_1
         replace hx161_2 := (HB.out.cell (World.block_lt_of_cell? w _ hx161_2)).trans hx161_2
         replace hx161_3 := (HB.out.cell (World.block_lt_of_cell? w _ hx161_3)).trans hx161_3
         replace p161 := eq_true p161
         replace q161 := eq_true q161
         refine start_ (n := 11) (S := fun w' => w'.cell? ⟨gb158, 0, none⟩ = some (.slice (some ad159) l0_0.length c0_0) ∧ w'.cell? ⟨gb158, 1, none⟩ = some (.slice (some ad161) l0_1.length c0_1) ∧ w'.cell? ⟨gb158, 2, none⟩ = some (.int .i64 a0_2) ∧ w'.cell? (ad159.add (x9_1).toNat) = some (.int .i64 (rd l0_0 x9_1)) ∧ w'.cell? (ad161.add (((rd l0_0 x9_1)).toNat * 4)) = some (.int .u64 ((rd_T62 l0_1 (rd l0_0 x9_1)).f0)) ∧ w'.cell? ⟨(ad161.add (((rd l0_0 x9_1)).toNat * 4)).block, (ad161.add (((rd l0_0 x9_1)).toNat * 4)).off + 1, none⟩ = some (.int .i64 ((rd_T62 l0_1 (rd l0_0 x9_1)).f1)) ∧ w'.cell? ⟨(ad161.add (((rd l0_0 x9_1)).toNat * 4)).block, (ad161.add (((rd l0_0 x9_1)).toNat * 4)).off + 2, none⟩ = some (.int .i64 ((rd_T62 l0_1 (rd l0_0 x9_1)).f2)) ∧ w'.cell? ⟨(ad161.add (((rd l0_0 x9_1)).toNat * 4)).block, (ad161.add (((rd l0_0 x9_1)).toNat * 4)).off + 3, none⟩ = some (.bool true)) (ds := []) (bs_ 11 0) q4_9 rfl rfl ⟨(blk_cell BK158.out 0).trans rfl, (blk_cell BK158.out 1).trans rfl, (blk_cell BK158.out 2).trans rfl, ((HB.out.cell (World.block_lt_of_cell? w _ hw160_0)).trans hw160_0), ((HB.out.cell (World.block_lt_of_cell? w _ hw161_0)).trans hw161_0), ((HB.out.cell (World.block_lt_of_cell? w _ hw161_1)).trans hw161_1), ((HB.out.cell (World.block_lt_of_cell? w _ hw161_2)).trans hw161_2), ((HB.out.cell (World.block_lt_of_cell? w _ hw161_3)).trans hw161_3)⟩ (fun hHeld => ?_); refine with_tabW spec_l7Find.tab7 spec_l7Find.bits7 (fun HT_ HW_ => ?_)
         generalize wr.drew = w16 at BK158 HB hx160_0 hx161_0 hx161_1 hx161_2 hx161_3 hHeld ⊢
         refine pure_ (i := 0) (N := some 28) (bs_ 11 1) rfl rfl (any_of HT_.out q4_9) (fun _ _ _ h => h) (Or.inl ⟨by rfl, qpy_pdix4⟩) qpa_pdix4 ?_
         refine pure_ (i := 2) (N := some 30) (bs_ 11 5) rfl rfl (any_of HT_.out q4_9) (fun _ _ _ h => h) (Or.inl ⟨by rfl, qpy_pdix4⟩) qpa_pdix4 ?_
         refine pure_ (i := 4) (N := some 32) (bs_ 11 21) rfl rfl (any_of HT_.out q4_9) (fun _ _ _ h => h) (Or.inl ⟨by rfl, qpy_pdix4⟩) qpa_pdix4 ?_
         refine take_ (i := 1) (N := some 29) (bs_ 11 23) rfl rfl (take_ofW HT_.out HW_.out q4_9) (fun _ _ _ h => h) (Or.inl ⟨by rfl, qpt8_pdix4⟩) hHeld qpa_pdix4 ?_
         refine take_ (i := 3) (N := some 31) (bs_ 11 31) rfl rfl (take_ofW HT_.out HW_.out q4_9) (fun _ _ _ h => h) (Or.inl ⟨by rfl, qpt8_pdix4⟩) hHeld qpa_pdix4 ?_
         refine pure_ (i := 5) (N := some 33) (bs_ 11 63) rfl rfl (any_of HT_.out q4_9) (fun _ _ _ h => h) (Or.inl ⟨by rfl, qpy_pdix4⟩) qpa_pdix4 ?_
         refine take_ (i := 6) (N := some 34) (bs_ 11 127) rfl rfl (take_ofW HT_.out HW_.out q4_9) (fun _ _ _ h => h) (Or.inl ⟨by rfl, qpt8_pdix4⟩) hHeld qpa_pdix4 ?_
         refine pure_ (i := 7) (N := some 35) (bs_ 11 255) rfl rfl (any_of HT_.out q4_9) (fun _ _ _ h => h) (Or.inl ⟨by rfl, qpy_pdix4⟩) qpa_pdix4 ?_
         refine take_ (i := 8) (N := some 36) (bs_ 11 511) rfl rfl (take_ofW HT_.out HW_.out q4_9) (fun _ _ _ h => h) (Or.inl ⟨by rfl, qpt8_pdix4⟩) hHeld qpa_pdix4 ?_
         refine one_ (i := 9) (N := some 12) (bs_ 11 1023) rfl rfl (one_of HT_.out q4_9) (by decide) (fun K hK => ?_)
         refine box_step ?hg (N := 12) ?hd (cs := #[.int .u64 0, .int .i64 0, .int .i64 0, .bool false]) (t := 62) ?hr ?_; (case hd => rfl); (case hg => rfl); (case hr => exact (by first | (go_simp; done) | (go_simp; rfl)))
         intro gb162 hg w17 hbox hb
         have n0_ := Aside0.mk (blk_below (q4_8 BK158) hb)
         have n1_ := Aside0.mk (below_step (q4_6 HB GE158) hb)
         have n2_ := Aside0.mk (hbox)
         have n3_ := Aside0.mk ((by rw [hg]; exact (below_size (q4_6 HB GE158)) : w.heap.size ≤ gb162))
         have n4_ := Aside0.mk ((by rw [hg]; exact (below_size (q4_6 HB GE158)) : w.heap.size ≤ gb162))
         have n5_ := Aside0.mk ((qnl_pdix4 BK158 hg : gb158 ≠ gb162))
         have n6_ := Aside0.mk ((qng_pdix4 BK158 hg : gb162 ≠ gb158))
         clear BK158 HB
         have BK158 := n0_
         have HB := n1_
         have BK162 := n2_
         have GW162 := n3_
         have GE162 := n4_
         have NB158_162 := n5_
         have NB162_158 := n6_
         clear n0_ n1_ n2_ n3_ n4_ n5_ n6_ hb hbox hg
         refine hK.out _ _ ⟨(blk_cell BK158.out 0).trans rfl, (blk_cell BK158.out 1).trans rfl, (blk_cell BK158.out 2).trans rfl, ((HB.out.cell (World.block_lt_of_cell? w _ hw160_0)).trans hw160_0), ((HB.out.cell (World.block_lt_of_cell? w _ hw161_0)).trans hw161_0), ((HB.out.cell (World.block_lt_of_cell? w _ hw161_1)).trans hw161_1), ((HB.out.cell (World.block_lt_of_cell? w _ hw161_2)).trans hw161_2), ((HB.out.cell (World.block_lt_of_cell? w _ hw161_3)).trans hw161_3)⟩ (fun hHeld => ?_)
         clear hK K
         refine norm_ (a' := ?_) ?_ ?_
         rotate_left
         ·show Act.put _ (some 12) _ = _
          simp only [Act.put, List.setIfInBounds_toArray, List.set_cons_zero, List.set_cons_succ, i64_w, i32_w]
          rfl
         refine one_ (i := 10) (N := none) (bs_ 11 2047) rfl rfl (one_of HT_.out q4_9) (by decide) (fun K hK => ?_)
         have hs18 : w17.cell? ⟨gb162, 0, none⟩ = some (.int .u64 0) := (blk_cell BK162.out 0).trans rfl
         have hfs18 := blk_frozen BK162.out 0
         have hns18_0 := NB158_162.out
         have hms18_0 := NB162_158.out
         have hs19 : w17.cell? ⟨gb162, 1, none⟩ = some (.int .i64 0) := (blk_cell BK162.out 1).trans rfl
         have hfs19 := blk_frozen BK162.out 1
         have hns19_0 := NB158_162.out
         have hms19_0 := NB162_158.out
         have hs20 : w17.cell? ⟨gb162, 2, none⟩ = some (.int .i64 0) := (blk_cell BK162.out 2).trans rfl
         have hfs20 := blk_frozen BK162.out 2
         have hns20_0 := NB158_162.out
         have hms20_0 := NB162_158.out
         have hs21 : w17.cell? ⟨gb162, 3, none⟩ = some (.bool false) := (blk_cell BK162.out 3).trans rfl
         have hfs21 := blk_frozen BK162.out 3
         have hns21_0 := NB158_162.out
         have hms21_0 := NB162_158.out
         refine skip_ (w1 := ?_) (by rfl) rfl ?_ ?_
         rotate_left
         ·go_simp
          rfl
         refine hK.out _ _ ⟨((cell_far (p := ⟨gb162, _, none⟩) NB158_162.out _).trans (((cell_far (p := ⟨gb162, _, none⟩) NB158_162.out _).trans (((cell_far (p := ⟨gb162, _, none⟩) NB158_162.out _).trans (((cell_far (p := ⟨gb162, _, none⟩) NB158_162.out _).trans (hHeld.1)))))))), ((cell_far (p := ⟨gb162, _, none⟩) NB158_162.out _).trans (((cell_far (p := ⟨gb162, _, none⟩) NB158_162.out _).trans (((cell_far (p := ⟨gb162, _, none⟩) NB158_162.out _).trans (((cell_far (p := ⟨gb162, _, none⟩) NB158_162.out _).trans (hHeld.2.1)))))))), ((cell_far (p := ⟨gb162, _, none⟩) NB158_162.out _).trans (((cell_far (p := ⟨gb162, _, none⟩) NB158_162.out _).trans (((cell_far (p := ⟨gb162, _, none⟩) NB158_162.out _).trans (((cell_far (p := ⟨gb162, _, none⟩) NB158_162.out _).trans (hHeld.2.2.1)))))))), ((cell_far (p := ⟨gb162, _, none⟩) (q4_1 GW162) _).trans (((cell_far (p := ⟨gb162, _, none⟩) (q4_1 GW162) _).trans (((cell_far (p := ⟨gb162, _, none⟩) (q4_1 GW162) _).trans (((cell_far (p := ⟨gb162, _, none⟩) (q4_1 GW162) _).trans (hHeld.2.2.2.1)))))))), ((cell_far (p := ⟨gb162, _, none⟩) (q4_2 GW162) _).trans (((cell_far (p := ⟨gb162, _, none⟩) (q4_2 GW162) _).trans (((cell_far (p := ⟨gb162, _, none⟩) (q4_2 GW162) _).trans (((cell_far (p := ⟨gb162, _, none⟩) (q4_2 GW162) _).trans (hHeld.2.2.2.2.1)))))))), ((cell_far (p := ⟨gb162, _, none⟩) (q4_3 GW162) _).trans (((cell_far (p := ⟨gb162, _, none⟩) (q4_3 GW162) _).trans (((cell_far (p := ⟨gb162, _, none⟩) (q4_3 GW162) _).trans (((cell_far (p := ⟨gb162, _, none⟩) (q4_3 GW162) _).trans (hHeld.2.2.2.2.2.1)))))))), ((cell_far (p := ⟨gb162, _, none⟩) (q4_4 GW162) _).trans (((cell_far (p := ⟨gb162, _, none⟩) (q4_4 GW162) _).trans (((cell_far (p := ⟨gb162, _, none⟩) (q4_4 GW162) _).trans (((cell_far (p := ⟨gb162, _, none⟩) (q4_4 GW162) _).trans (hHeld.2.2.2.2.2.2.1)))))))), ((cell_far (p := ⟨gb162, _, none⟩) (q4_5 GW162) _).trans (((cell_far (p := ⟨gb162, _, none⟩) (q4_5 GW162) _).trans (((cell_far (p := ⟨gb162, _, none⟩) (q4_5 GW162) _).trans (((cell_far (p := ⟨gb162, _, none⟩) (q4_5 GW162) _).trans (hHeld.2.2.2.2.2.2.2))))))))⟩ (fun hHeld => ?_)
         clear hK K
         refine done_ (done_of HT_.out q4_9) ?_
         have hnb22 := NB162_158.out
         have hnc22 := NB158_162.out
         have hcz23_0 : w17.cell? ⟨gb162, 0, none⟩ = some (.int .u64 0) := (blk_cell BK162.out 0).trans rfl
         have hcz23_1 : w17.cell? ⟨gb162, 1, none⟩ = some (.int .i64 0) := (blk_cell BK162.out 1).trans rfl
         have hcz23_2 : w17.cell? ⟨gb162, 2, none⟩ = some (.int .i64 0) := (blk_cell BK162.out 2).trans rfl
         have hcz23_3 : w17.cell? ⟨gb162, 3, none⟩ = some (.bool false) := (blk_cell BK162.out 3).trans rfl
         have hfz23_0 := blk_frozen BK162.out 0
         have hfz23_1 := blk_frozen BK162.out 1
         have hfz23_2 := blk_frozen BK162.out 2
         have hfz23_3 := blk_frozen BK162.out 3
         try go_wp2_with (first | ((with_reducible refine gate_callee (f := 66) rfl ?_); refine goesL_ (some 62) rfl rfl Try.func66 q4_9 rfl #[.int .u64 x9_1, .int .u64 a1, .int .i64 x11_1, .int .u64 (IntKind.u64.wrap ((l0_0.length : Int)))] rfl q4_11 ?_; (with_reducible refine (spec_l7Next.calls x9_1 a1 x11_1 (IntKind.u64.wrap ((l0_0.length : Int))) t163 _ A14.out).mono ?_); rintro e w' ⟨rfl, ⟨nd, rfl⟩⟩; refine ⟨_, rfl, ?_⟩))
         go_roundg k1
         case measure => have := HK1.out; omega
         case rel => exact ⟨(t163), (wrap64 (x10_1 + 1)), (wrap64 (x11_1 + 1)), q4_10, q4_10, q4_10, H', ⟨(by have := HK1.out; omega)⟩, ⟨(rdi4_1 NB158_162 BK158)⟩, ⟨(rdi4_2 HB GE158 GE162)⟩⟩
        replace c13 := Bool.eq_false_iff.mpr c13
        subst c13
        have H1 : (if ((rd_T62 l0_1 (rd l0_0 x9_1)).f0) = a1 then (if ((rd_T62 l0_1 (rd l0_0 x9_1)).f1) = a2 then (some (rd l0_0 x9_1, x10_1)) else ((spec_l7Next.f x9_1 a1 x11_1 (IntKind.u64.wrap ((l0_0.length : Int)))).bind fun t165 => (spec_l7Find.l0 k1 a1 a2 (IntKind.u64.wrap ((l0_0.length : Int))) t165 (wrap64 (x10_1 + 1)) (wrap64 (x11_1 + 1)) l0_0 l0_1 a0_2))) else ((spec_l7Next.f x9_1 a1 x11_1 (IntKind.u64.wrap ((l0_0.length : Int)))).bind fun t166 => (spec_l7Find.l0 k1 a1 a2 (IntKind.u64.wrap ((l0_0.length : Int))) t166 (wrap64 (x10_1 + 1)) (wrap64 (x11_1 + 1)) l0_0 l0_1 a0_2))) = some (r1, r2) := by rw [if_neg (show ¬ (false = true) by decide)] at H; exact H
        clear H
        have H := H1
        clear H1
        by_cases c24 : ((rd_T62 l0_1 (rd l0_0 x9_1)).f0) = a1
        ·rw [if_pos c24] at H
         have c24b0 : (((rd_T62 l0_1 (rd l0_0 x9_1)).f0) == a1) = true := beq_iff_eq.mpr c24
         have c24b1 : (((rd_T62 l0_1 (rd l0_0 x9_1)).f0) != a1) = false := bne_eq_false_iff_eq.mpr c24
         clear c24
         by_cases c25 : ((rd_T62 l0_1 (rd l0_0 x9_1)).f1) = a2
         ·rw [if_pos c25] at H
          have c25b0 : (((rd_T62 l0_1 (rd l0_0 x9_1)).f1) == a2) = true := beq_iff_eq.mpr c25
          have c25b1 : (((rd_T62 l0_1 (rd l0_0 x9_1)).f1) != a2) = false := bne_eq_false_iff_eq.mpr c25
          clear c25
          simp only [Option.some.injEq, Prod.mk.injEq] at H
          obtain ⟨rfl, rfl⟩ := H
          have hcz26_0 : wr.cell? ⟨gb158, 0, none⟩ = some (.slice A0_0 l0_0.length c0_0) := (blk_cell BK158.out 0).trans rfl
          have hcz26_1 : wr.cell? ⟨gb158, 1, none⟩ = some (.slice A0_1 l0_1.length c0_1) := (blk_cell BK158.out 1).trans rfl
          have hcz26_2 : wr.cell? ⟨gb158, 2, none⟩ = some (.int .i64 a0_2) := (blk_cell BK158.out 2).trans rfl
          have hfz26_0 := blk_frozen BK158.out 0
          have hfz26_1 := blk_frozen BK158.out 1
          have hfz26_2 := blk_frozen BK158.out 2
          have p159 : 0 ≤ (x9_1 : Int) := of_decide_eq_true q4_7
          have q159 : x9_1 < (l0_0.length : Int) := of_decide_eq_true q4_7
          obtain ⟨ad159, e159, hx159_0⟩ := Kd.at_int HR0_0.out x9_1 p159 q159
          cases e159
          replace hx159_0 := (HB.out.cell (World.block_lt_of_cell? w _ hx159_0)).trans hx159_0
          replace p159 := eq_true p159
          replace q159 := eq_true q159
          try go_wp2
          have n0_ := Aside0.mk (blk_drew BK158.out)
          have n1_ := Aside0.mk (below_drew1 HB.out)
          clear BK158 HB
          have BK158 := n0_
          have HB := n1_
          clear n0_ n1_
          have p160 : 0 ≤ (x9_1 : Int) := of_decide_eq_true q4_7
          have q160 : x9_1 < (l0_0.length : Int) := of_decide_eq_true q4_7
          obtain ⟨ad160, e160, hx160_0⟩ := Kd.at_int HR0_0.out x9_1 p160 q160
          have hw160_0 := hx160_0
          obtain rfl : ad159 = ad160 := (by injection e160)
          replace hx160_0 := (HB.out.cell (World.block_lt_of_cell? w _ hx160_0)).trans hx160_0
          replace p160 := eq_true p160
          replace q160 := eq_true q160
          have p161 : 0 ≤ ((rd l0_0 x9_1) : Int) := of_decide_eq_true q4_7
          have q161 : (rd l0_0 x9_1) < (l0_1.length : Int) := of_decide_eq_true q4_7
          obtain ⟨ad161, e161, hx161_0, hx161_1, hx161_2, hx161_3⟩ := at_T62 HR0_1.out (rd l0_0 x9_1) p161 q161
          have hw161_3 := hx161_3
          have hw161_2 := hx161_2
          have hw161_1 := hx161_1
          have hw161_0 := hx161_0
          (try rw [← Nbq12.out] at hx161_3)
          (try rw [← Nbq12.out] at hw161_3)
          cases e161
          replace hx161_0 := (HB.out.cell (World.block_lt_of_cell? w _ hx161_0)).trans hx161_0
          replace hx161_1 := (HB.out.cell (World.block_lt_of_cell? w _ hx161_1)).trans hx161_1
          replace hx161_2 := (HB.out.cell (World.block_lt_of_cell? w _ hx161_2)).trans hx161_2
          replace hx161_3 := (HB.out.cell (World.block_lt_of_cell? w _ hx161_3)).trans hx161_3
          replace p161 := eq_true p161
          replace q161 := eq_true q161
          refine start_ (n := 11) (S := fun w' => w'.cell? ⟨gb158, 0, none⟩ = some (.slice (some ad159) l0_0.length c0_0) ∧ w'.cell? ⟨gb158, 1, none⟩ = some (.slice (some ad161) l0_1.length c0_1) ∧ w'.cell? ⟨gb158, 2, none⟩ = some (.int .i64 a0_2) ∧ w'.cell? (ad159.add (x9_1).toNat) = some (.int .i64 (rd l0_0 x9_1)) ∧ w'.cell? (ad161.add (((rd l0_0 x9_1)).toNat * 4)) = some (.int .u64 ((rd_T62 l0_1 (rd l0_0 x9_1)).f0)) ∧ w'.cell? ⟨(ad161.add (((rd l0_0 x9_1)).toNat * 4)).block, (ad161.add (((rd l0_0 x9_1)).toNat * 4)).off + 1, none⟩ = some (.int .i64 ((rd_T62 l0_1 (rd l0_0 x9_1)).f1)) ∧ w'.cell? ⟨(ad161.add (((rd l0_0 x9_1)).toNat * 4)).block, (ad161.add (((rd l0_0 x9_1)).toNat * 4)).off + 2, none⟩ = some (.int .i64 ((rd_T62 l0_1 (rd l0_0 x9_1)).f2)) ∧ w'.cell? ⟨(ad161.add (((rd l0_0 x9_1)).toNat * 4)).block, (ad161.add (((rd l0_0 x9_1)).toNat * 4)).off + 3, none⟩ = some (.bool false)) (ds := []) (bs_ 11 0) q4_9 rfl rfl ⟨(blk_cell BK158.out 0).trans rfl, (blk_cell BK158.out 1).trans rfl, (blk_cell BK158.out 2).trans rfl, ((HB.out.cell (World.block_lt_of_cell? w _ hw160_0)).trans hw160_0), ((HB.out.cell (World.block_lt_of_cell? w _ hw161_0)).trans hw161_0), ((HB.out.cell (World.block_lt_of_cell? w _ hw161_1)).trans hw161_1), ((HB.out.cell (World.block_lt_of_cell? w _ hw161_2)).trans hw161_2), ((HB.out.cell (World.block_lt_of_cell? w _ hw161_3)).trans hw161_3)⟩ (fun hHeld => ?_); refine with_tabW spec_l7Find.tab7 spec_l7Find.bits7 (fun HT_ HW_ => ?_)
          generalize wr.drew = w27 at BK158 HB hx160_0 hx161_0 hx161_1 hx161_2 hx161_3 hHeld ⊢
          refine pure_ (i := 0) (N := some 28) (bs_ 11 1) rfl rfl (any_of HT_.out q4_9) (fun _ _ _ h => h) (Or.inl ⟨by rfl, qpy_pdix4⟩) qpa_pdix4 ?_
          refine pure_ (i := 2) (N := some 30) (bs_ 11 5) rfl rfl (any_of HT_.out q4_9) (fun _ _ _ h => h) (Or.inl ⟨by rfl, qpy_pdix4⟩) qpa_pdix4 ?_
          refine pure_ (i := 4) (N := some 32) (bs_ 11 21) rfl rfl (any_of HT_.out q4_9) (fun _ _ _ h => h) (Or.inl ⟨by rfl, qpy_pdix4⟩) qpa_pdix4 ?_
          refine take_ (i := 1) (N := some 29) (bs_ 11 23) rfl rfl (take_ofW HT_.out HW_.out q4_9) (fun _ _ _ h => h) (Or.inl ⟨by rfl, qpt8_pdix4⟩) hHeld qpa_pdix4 ?_
          refine take_ (i := 3) (N := some 31) (bs_ 11 31) rfl rfl (take_ofW HT_.out HW_.out q4_9) (fun _ _ _ h => h) (Or.inl ⟨by rfl, qpt8_pdix4⟩) hHeld qpa_pdix4 ?_
          refine pure_ (i := 5) (N := some 33) (bs_ 11 63) rfl rfl (any_of HT_.out q4_9) (fun _ _ _ h => h) (Or.inl ⟨by rfl, qpy_pdix4⟩) qpa_pdix4 ?_
          refine take_ (i := 6) (N := some 34) (bs_ 11 127) rfl rfl (take_ofW HT_.out HW_.out q4_9) (fun _ _ _ h => h) (Or.inl ⟨by rfl, qpt8_pdix4⟩) hHeld qpa_pdix4 ?_
          refine pure_ (i := 7) (N := some 35) (bs_ 11 255) rfl rfl (any_of HT_.out q4_9) (fun _ _ _ h => h) (Or.inl ⟨by rfl, qpy_pdix4⟩) qpa_pdix4 ?_
          refine take_ (i := 8) (N := some 36) (bs_ 11 511) rfl rfl (take_ofW HT_.out HW_.out q4_9) (fun _ _ _ h => h) (Or.inl ⟨by rfl, qpt8_pdix4⟩) hHeld qpa_pdix4 ?_
          refine one_ (i := 9) (N := some 12) (bs_ 11 1023) rfl rfl (one_of HT_.out q4_9) (by decide) (fun K hK => ?_)
          refine box_step ?hg (N := 12) ?hd (cs := #[.int .u64 0, .int .i64 0, .int .i64 0, .bool false]) (t := 62) ?hr ?_; (case hd => rfl); (case hg => rfl); (case hr => exact (by first | (go_simp; done) | (go_simp; rfl)))
          intro gb162 hg w28 hbox hb
          have n0_ := Aside0.mk (blk_below (q4_8 BK158) hb)
          have n1_ := Aside0.mk (below_step (q4_6 HB GE158) hb)
          have n2_ := Aside0.mk (hbox)
          have n3_ := Aside0.mk ((by rw [hg]; exact (below_size (q4_6 HB GE158)) : w.heap.size ≤ gb162))
          have n4_ := Aside0.mk ((by rw [hg]; exact (below_size (q4_6 HB GE158)) : w.heap.size ≤ gb162))
          have n5_ := Aside0.mk ((qnl_pdix4 BK158 hg : gb158 ≠ gb162))
          have n6_ := Aside0.mk ((qng_pdix4 BK158 hg : gb162 ≠ gb158))
          clear BK158 HB
          have BK158 := n0_
          have HB := n1_
          have BK162 := n2_
          have GW162 := n3_
          have GE162 := n4_
          have NB158_162 := n5_
          have NB162_158 := n6_
          clear n0_ n1_ n2_ n3_ n4_ n5_ n6_ hb hbox hg
          refine hK.out _ _ ⟨(blk_cell BK158.out 0).trans rfl, (blk_cell BK158.out 1).trans rfl, (blk_cell BK158.out 2).trans rfl, ((HB.out.cell (World.block_lt_of_cell? w _ hw160_0)).trans hw160_0), ((HB.out.cell (World.block_lt_of_cell? w _ hw161_0)).trans hw161_0), ((HB.out.cell (World.block_lt_of_cell? w _ hw161_1)).trans hw161_1), ((HB.out.cell (World.block_lt_of_cell? w _ hw161_2)).trans hw161_2), ((HB.out.cell (World.block_lt_of_cell? w _ hw161_3)).trans hw161_3)⟩ (fun hHeld => ?_)
          clear hK K
          refine norm_ (a' := ?_) ?_ ?_
          rotate_left
          ·show Act.put _ (some 12) _ = _
           simp only [Act.put, List.setIfInBounds_toArray, List.set_cons_zero, List.set_cons_succ, i64_w, i32_w]
           rfl
          refine one_ (i := 10) (N := none) (bs_ 11 2047) rfl rfl (one_of HT_.out q4_9) (by decide) (fun K hK => ?_)
          have hs29 : w28.cell? ⟨gb162, 0, none⟩ = some (.int .u64 0) := (blk_cell BK162.out 0).trans rfl
          have hfs29 := blk_frozen BK162.out 0
          have hns29_0 := NB158_162.out
          have hms29_0 := NB162_158.out
          have hs30 : w28.cell? ⟨gb162, 1, none⟩ = some (.int .i64 0) := (blk_cell BK162.out 1).trans rfl
          have hfs30 := blk_frozen BK162.out 1
          have hns30_0 := NB158_162.out
          have hms30_0 := NB162_158.out
          have hs31 : w28.cell? ⟨gb162, 2, none⟩ = some (.int .i64 0) := (blk_cell BK162.out 2).trans rfl
          have hfs31 := blk_frozen BK162.out 2
          have hns31_0 := NB158_162.out
          have hms31_0 := NB162_158.out
          have hs32 : w28.cell? ⟨gb162, 3, none⟩ = some (.bool false) := (blk_cell BK162.out 3).trans rfl
          have hfs32 := blk_frozen BK162.out 3
          have hns32_0 := NB158_162.out
          have hms32_0 := NB162_158.out
          refine skip_ (w1 := ?_) (by rfl) rfl ?_ ?_
          rotate_left
          ·go_simp
           rfl
          refine hK.out _ _ ⟨((cell_far (p := ⟨gb162, _, none⟩) NB158_162.out _).trans (((cell_far (p := ⟨gb162, _, none⟩) NB158_162.out _).trans (((cell_far (p := ⟨gb162, _, none⟩) NB158_162.out _).trans (((cell_far (p := ⟨gb162, _, none⟩) NB158_162.out _).trans (hHeld.1)))))))), ((cell_far (p := ⟨gb162, _, none⟩) NB158_162.out _).trans (((cell_far (p := ⟨gb162, _, none⟩) NB158_162.out _).trans (((cell_far (p := ⟨gb162, _, none⟩) NB158_162.out _).trans (((cell_far (p := ⟨gb162, _, none⟩) NB158_162.out _).trans (hHeld.2.1)))))))), ((cell_far (p := ⟨gb162, _, none⟩) NB158_162.out _).trans (((cell_far (p := ⟨gb162, _, none⟩) NB158_162.out _).trans (((cell_far (p := ⟨gb162, _, none⟩) NB158_162.out _).trans (((cell_far (p := ⟨gb162, _, none⟩) NB158_162.out _).trans (hHeld.2.2.1)))))))), ((cell_far (p := ⟨gb162, _, none⟩) (q4_1 GW162) _).trans (((cell_far (p := ⟨gb162, _, none⟩) (q4_1 GW162) _).trans (((cell_far (p := ⟨gb162, _, none⟩) (q4_1 GW162) _).trans (((cell_far (p := ⟨gb162, _, none⟩) (q4_1 GW162) _).trans (hHeld.2.2.2.1)))))))), ((cell_far (p := ⟨gb162, _, none⟩) (q4_2 GW162) _).trans (((cell_far (p := ⟨gb162, _, none⟩) (q4_2 GW162) _).trans (((cell_far (p := ⟨gb162, _, none⟩) (q4_2 GW162) _).trans (((cell_far (p := ⟨gb162, _, none⟩) (q4_2 GW162) _).trans (hHeld.2.2.2.2.1)))))))), ((cell_far (p := ⟨gb162, _, none⟩) (q4_3 GW162) _).trans (((cell_far (p := ⟨gb162, _, none⟩) (q4_3 GW162) _).trans (((cell_far (p := ⟨gb162, _, none⟩) (q4_3 GW162) _).trans (((cell_far (p := ⟨gb162, _, none⟩) (q4_3 GW162) _).trans (hHeld.2.2.2.2.2.1)))))))), ((cell_far (p := ⟨gb162, _, none⟩) (q4_4 GW162) _).trans (((cell_far (p := ⟨gb162, _, none⟩) (q4_4 GW162) _).trans (((cell_far (p := ⟨gb162, _, none⟩) (q4_4 GW162) _).trans (((cell_far (p := ⟨gb162, _, none⟩) (q4_4 GW162) _).trans (hHeld.2.2.2.2.2.2.1)))))))), ((cell_far (p := ⟨gb162, _, none⟩) (q4_5 GW162) _).trans (((cell_far (p := ⟨gb162, _, none⟩) (q4_5 GW162) _).trans (((cell_far (p := ⟨gb162, _, none⟩) (q4_5 GW162) _).trans (((cell_far (p := ⟨gb162, _, none⟩) (q4_5 GW162) _).trans (hHeld.2.2.2.2.2.2.2))))))))⟩ (fun hHeld => ?_)
          clear hK K
          refine done_ (done_of HT_.out q4_9) ?_
          have hnb33 := NB162_158.out
          have hnc33 := NB158_162.out
          have hcz34_0 : w28.cell? ⟨gb162, 0, none⟩ = some (.int .u64 0) := (blk_cell BK162.out 0).trans rfl
          have hcz34_1 : w28.cell? ⟨gb162, 1, none⟩ = some (.int .i64 0) := (blk_cell BK162.out 1).trans rfl
          have hcz34_2 : w28.cell? ⟨gb162, 2, none⟩ = some (.int .i64 0) := (blk_cell BK162.out 2).trans rfl
          have hcz34_3 : w28.cell? ⟨gb162, 3, none⟩ = some (.bool false) := (blk_cell BK162.out 3).trans rfl
          have hfz34_0 := blk_frozen BK162.out 0
          have hfz34_1 := blk_frozen BK162.out 1
          have hfz34_2 := blk_frozen BK162.out 2
          have hfz34_3 := blk_frozen BK162.out 3
          have hcz35_0 : w28.cell? ⟨gb158, 0, none⟩ = some (.slice (some ad159) l0_0.length c0_0) := (blk_cell BK158.out 0).trans rfl
          have hcz35_1 : w28.cell? ⟨gb158, 1, none⟩ = some (.slice (some ad161) l0_1.length c0_1) := (blk_cell BK158.out 1).trans rfl
          have hcz35_2 : w28.cell? ⟨gb158, 2, none⟩ = some (.int .i64 a0_2) := (blk_cell BK158.out 2).trans rfl
          have hfz35_0 := blk_frozen BK158.out 0
          have hfz35_1 := blk_frozen BK158.out 1
          have hfz35_2 := blk_frozen BK158.out 2
          have p164 : 0 ≤ (x9_1 : Int) := of_decide_eq_true q4_7
          have q164 : x9_1 < (l0_0.length : Int) := of_decide_eq_true q4_7
          obtain ⟨ad164, e164, hx164_0⟩ := Kd.at_int HR0_0.out x9_1 p164 q164
          obtain rfl : ad159 = ad164 := (by injection e164)
          have hn164_0 : ad159.block ≠ gb162 := Nat.ne_of_lt (Nat.lt_of_lt_of_le q4_12 GW162.out)
          have hn164_1 : ad159.block ≠ gb162 := Nat.ne_of_lt (Nat.lt_of_lt_of_le q4_12 GW162.out)
          have hn164_2 : ad159.block ≠ gb162 := Nat.ne_of_lt (Nat.lt_of_lt_of_le q4_12 GW162.out)
          have hn164_3 : ad159.block ≠ gb162 := Nat.ne_of_lt (Nat.lt_of_lt_of_le q4_12 GW162.out)
          replace hx164_0 := (HB.out.cell (World.block_lt_of_cell? w _ hx164_0)).trans hx164_0
          replace hx164_0 := (cell_far (p := ⟨gb162, 0, none⟩) (by first | (rw [add_block]; exact hn164_0) | (show (Addr.add _ _).block ≠ _; rw [add_block]; exact hn164_0) | exact hn164_0) (.int .u64 ((rd_T62 l0_1 (rd l0_0 x9_1)).f0))).trans hx164_0
          replace hx164_0 := (cell_far (p := ⟨gb162, 1, none⟩) (by first | (rw [add_block]; exact hn164_1) | (show (Addr.add _ _).block ≠ _; rw [add_block]; exact hn164_1) | exact hn164_1) (.int .i64 ((rd_T62 l0_1 (rd l0_0 x9_1)).f1))).trans hx164_0
          replace hx164_0 := (cell_far (p := ⟨gb162, 2, none⟩) (by first | (rw [add_block]; exact hn164_2) | (show (Addr.add _ _).block ≠ _; rw [add_block]; exact hn164_2) | exact hn164_2) (.int .i64 ((rd_T62 l0_1 (rd l0_0 x9_1)).f2))).trans hx164_0
          replace hx164_0 := (cell_far (p := ⟨gb162, 3, none⟩) (by first | (rw [add_block]; exact hn164_3) | (show (Addr.add _ _).block ≠ _; rw [add_block]; exact hn164_3) | exact hn164_3) (.bool false)).trans hx164_0
          clear hn164_0 hn164_1 hn164_2 hn164_3
          replace p164 := eq_true p164
          replace q164 := eq_true q164
          try go_wp2
          go_ret2
          exact ⟨(by first | rfl | (simp [errW_none, errW_some] <;> rfl) | (simp [*, errW_none, errW_some] <;> rfl)), (rdi4_2 HB GE158 GE162)⟩
         rw [if_neg c25] at H
         have c25b0 : (((rd_T62 l0_1 (rd l0_0 x9_1)).f1) == a2) = false := beq_eq_false_iff_ne.mpr c25
         have c25b1 : (((rd_T62 l0_1 (rd l0_0 x9_1)).f1) != a2) = true := bne_iff_ne.mpr c25
         replace H := Option.bind_eq_some_iff.mp H
         obtain ⟨t165, A360, H⟩ := H
         replace H : (spec_l7Find.l0 k1 a1 a2 (IntKind.u64.wrap ((l0_0.length : Int))) t165 (wrap64 (x10_1 + 1)) (wrap64 (x11_1 + 1)) l0_0 l0_1 a0_2) = some (r1, r2) := H
         have A36 := Aside0.mk A360
         clear A360
         have H' := Aside0.mk H
         clear H
         have hcz37_0 : wr.cell? ⟨gb158, 0, none⟩ = some (.slice A0_0 l0_0.length c0_0) := (blk_cell BK158.out 0).trans rfl
         have hcz37_1 : wr.cell? ⟨gb158, 1, none⟩ = some (.slice A0_1 l0_1.length c0_1) := (blk_cell BK158.out 1).trans rfl
         have hcz37_2 : wr.cell? ⟨gb158, 2, none⟩ = some (.int .i64 a0_2) := (blk_cell BK158.out 2).trans rfl
         have hfz37_0 := blk_frozen BK158.out 0
         have hfz37_1 := blk_frozen BK158.out 1
         have hfz37_2 := blk_frozen BK158.out 2
         have p159 : 0 ≤ (x9_1 : Int) := of_decide_eq_true q4_7
         have q159 : x9_1 < (l0_0.length : Int) := of_decide_eq_true q4_7
         obtain ⟨ad159, e159, hx159_0⟩ := Kd.at_int HR0_0.out x9_1 p159 q159
         cases e159
         replace hx159_0 := (HB.out.cell (World.block_lt_of_cell? w _ hx159_0)).trans hx159_0
         replace p159 := eq_true p159
         replace q159 := eq_true q159
         try go_wp2
         have n0_ := Aside0.mk (blk_drew BK158.out)
         have n1_ := Aside0.mk (below_drew1 HB.out)
         clear BK158 HB
         have BK158 := n0_
         have HB := n1_
         clear n0_ n1_
         have p160 : 0 ≤ (x9_1 : Int) := of_decide_eq_true q4_7
         have q160 : x9_1 < (l0_0.length : Int) := of_decide_eq_true q4_7
         obtain ⟨ad160, e160, hx160_0⟩ := Kd.at_int HR0_0.out x9_1 p160 q160
         have hw160_0 := hx160_0
         obtain rfl : ad159 = ad160 := (by injection e160)
         replace hx160_0 := (HB.out.cell (World.block_lt_of_cell? w _ hx160_0)).trans hx160_0
         replace p160 := eq_true p160
         replace q160 := eq_true q160
         have p161 : 0 ≤ ((rd l0_0 x9_1) : Int) := of_decide_eq_true q4_7
         have q161 : (rd l0_0 x9_1) < (l0_1.length : Int) := of_decide_eq_true q4_7
         obtain ⟨ad161, e161, hx161_0, hx161_1, hx161_2, hx161_3⟩ := at_T62 HR0_1.out (rd l0_0 x9_1) p161 q161
         have hw161_3 := hx161_3
         have hw161_2 := hx161_2
         have hw161_1 := hx161_1
         have hw161_0 := hx161_0
         (try rw [← Nbq12.out] at hx161_3)
         (try rw [← Nbq12.out] at hw161_3)
         cases e161
         replace hx161_0 := (HB.out.cell (World.block_lt_of_cell? w _ hx161_0)).trans hx161_0
         replace hx161_1 := (HB.out.cell (World.block_lt_of_cell? w _ hx161_1)).trans hx161_1
         replace hx161_2 := (HB.out.cell (World.block_lt_of_cell? w _ hx161_2)).trans hx161_2
         replace hx161_3 := (HB.out.cell (World.block_lt_of_cell? w _ hx161_3)).trans hx161_3
         replace p161 := eq_true p161
         replace q161 := eq_true q161
         refine start_ (n := 11) (S := fun w' => w'.cell? ⟨gb158, 0, none⟩ = some (.slice (some ad159) l0_0.length c0_0) ∧ w'.cell? ⟨gb158, 1, none⟩ = some (.slice (some ad161) l0_1.length c0_1) ∧ w'.cell? ⟨gb158, 2, none⟩ = some (.int .i64 a0_2) ∧ w'.cell? (ad159.add (x9_1).toNat) = some (.int .i64 (rd l0_0 x9_1)) ∧ w'.cell? (ad161.add (((rd l0_0 x9_1)).toNat * 4)) = some (.int .u64 ((rd_T62 l0_1 (rd l0_0 x9_1)).f0)) ∧ w'.cell? ⟨(ad161.add (((rd l0_0 x9_1)).toNat * 4)).block, (ad161.add (((rd l0_0 x9_1)).toNat * 4)).off + 1, none⟩ = some (.int .i64 ((rd_T62 l0_1 (rd l0_0 x9_1)).f1)) ∧ w'.cell? ⟨(ad161.add (((rd l0_0 x9_1)).toNat * 4)).block, (ad161.add (((rd l0_0 x9_1)).toNat * 4)).off + 2, none⟩ = some (.int .i64 ((rd_T62 l0_1 (rd l0_0 x9_1)).f2)) ∧ w'.cell? ⟨(ad161.add (((rd l0_0 x9_1)).toNat * 4)).block, (ad161.add (((rd l0_0 x9_1)).toNat * 4)).off + 3, none⟩ = some (.bool false)) (ds := []) (bs_ 11 0) q4_9 rfl rfl ⟨(blk_cell BK158.out 0).trans rfl, (blk_cell BK158.out 1).trans rfl, (blk_cell BK158.out 2).trans rfl, ((HB.out.cell (World.block_lt_of_cell? w _ hw160_0)).trans hw160_0), ((HB.out.cell (World.block_lt_of_cell? w _ hw161_0)).trans hw161_0), ((HB.out.cell (World.block_lt_of_cell? w _ hw161_1)).trans hw161_1), ((HB.out.cell (World.block_lt_of_cell? w _ hw161_2)).trans hw161_2), ((HB.out.cell (World.block_lt_of_cell? w _ hw161_3)).trans hw161_3)⟩ (fun hHeld => ?_); refine with_tabW spec_l7Find.tab7 spec_l7Find.bits7 (fun HT_ HW_ => ?_)
         generalize wr.drew = w38 at BK158 HB hx160_0 hx161_0 hx161_1 hx161_2 hx161_3 hHeld ⊢
         refine pure_ (i := 0) (N := some 28) (bs_ 11 1) rfl rfl (any_of HT_.out q4_9) (fun _ _ _ h => h) (Or.inl ⟨by rfl, qpy_pdix4⟩) qpa_pdix4 ?_
         refine pure_ (i := 2) (N := some 30) (bs_ 11 5) rfl rfl (any_of HT_.out q4_9) (fun _ _ _ h => h) (Or.inl ⟨by rfl, qpy_pdix4⟩) qpa_pdix4 ?_
         refine pure_ (i := 4) (N := some 32) (bs_ 11 21) rfl rfl (any_of HT_.out q4_9) (fun _ _ _ h => h) (Or.inl ⟨by rfl, qpy_pdix4⟩) qpa_pdix4 ?_
         refine take_ (i := 1) (N := some 29) (bs_ 11 23) rfl rfl (take_ofW HT_.out HW_.out q4_9) (fun _ _ _ h => h) (Or.inl ⟨by rfl, qpt8_pdix4⟩) hHeld qpa_pdix4 ?_
         refine take_ (i := 3) (N := some 31) (bs_ 11 31) rfl rfl (take_ofW HT_.out HW_.out q4_9) (fun _ _ _ h => h) (Or.inl ⟨by rfl, qpt8_pdix4⟩) hHeld qpa_pdix4 ?_
         refine pure_ (i := 5) (N := some 33) (bs_ 11 63) rfl rfl (any_of HT_.out q4_9) (fun _ _ _ h => h) (Or.inl ⟨by rfl, qpy_pdix4⟩) qpa_pdix4 ?_
         refine take_ (i := 6) (N := some 34) (bs_ 11 127) rfl rfl (take_ofW HT_.out HW_.out q4_9) (fun _ _ _ h => h) (Or.inl ⟨by rfl, qpt8_pdix4⟩) hHeld qpa_pdix4 ?_
         refine pure_ (i := 7) (N := some 35) (bs_ 11 255) rfl rfl (any_of HT_.out q4_9) (fun _ _ _ h => h) (Or.inl ⟨by rfl, qpy_pdix4⟩) qpa_pdix4 ?_
         refine take_ (i := 8) (N := some 36) (bs_ 11 511) rfl rfl (take_ofW HT_.out HW_.out q4_9) (fun _ _ _ h => h) (Or.inl ⟨by rfl, qpt8_pdix4⟩) hHeld qpa_pdix4 ?_
         refine one_ (i := 9) (N := some 12) (bs_ 11 1023) rfl rfl (one_of HT_.out q4_9) (by decide) (fun K hK => ?_)
         refine box_step ?hg (N := 12) ?hd (cs := #[.int .u64 0, .int .i64 0, .int .i64 0, .bool false]) (t := 62) ?hr ?_; (case hd => rfl); (case hg => rfl); (case hr => exact (by first | (go_simp; done) | (go_simp; rfl)))
         intro gb162 hg w39 hbox hb
         have n0_ := Aside0.mk (blk_below (q4_8 BK158) hb)
         have n1_ := Aside0.mk (below_step (q4_6 HB GE158) hb)
         have n2_ := Aside0.mk (hbox)
         have n3_ := Aside0.mk ((by rw [hg]; exact (below_size (q4_6 HB GE158)) : w.heap.size ≤ gb162))
         have n4_ := Aside0.mk ((by rw [hg]; exact (below_size (q4_6 HB GE158)) : w.heap.size ≤ gb162))
         have n5_ := Aside0.mk ((qnl_pdix4 BK158 hg : gb158 ≠ gb162))
         have n6_ := Aside0.mk ((qng_pdix4 BK158 hg : gb162 ≠ gb158))
         clear BK158 HB
         have BK158 := n0_
         have HB := n1_
         have BK162 := n2_
         have GW162 := n3_
         have GE162 := n4_
         have NB158_162 := n5_
         have NB162_158 := n6_
         clear n0_ n1_ n2_ n3_ n4_ n5_ n6_ hb hbox hg
         refine hK.out _ _ ⟨(blk_cell BK158.out 0).trans rfl, (blk_cell BK158.out 1).trans rfl, (blk_cell BK158.out 2).trans rfl, ((HB.out.cell (World.block_lt_of_cell? w _ hw160_0)).trans hw160_0), ((HB.out.cell (World.block_lt_of_cell? w _ hw161_0)).trans hw161_0), ((HB.out.cell (World.block_lt_of_cell? w _ hw161_1)).trans hw161_1), ((HB.out.cell (World.block_lt_of_cell? w _ hw161_2)).trans hw161_2), ((HB.out.cell (World.block_lt_of_cell? w _ hw161_3)).trans hw161_3)⟩ (fun hHeld => ?_)
         clear hK K
         refine norm_ (a' := ?_) ?_ ?_
         rotate_left
         ·show Act.put _ (some 12) _ = _
          simp only [Act.put, List.setIfInBounds_toArray, List.set_cons_zero, List.set_cons_succ, i64_w, i32_w]
          rfl
         refine one_ (i := 10) (N := none) (bs_ 11 2047) rfl rfl (one_of HT_.out q4_9) (by decide) (fun K hK => ?_)
         have hs40 : w39.cell? ⟨gb162, 0, none⟩ = some (.int .u64 0) := (blk_cell BK162.out 0).trans rfl
         have hfs40 := blk_frozen BK162.out 0
         have hns40_0 := NB158_162.out
         have hms40_0 := NB162_158.out
         have hs41 : w39.cell? ⟨gb162, 1, none⟩ = some (.int .i64 0) := (blk_cell BK162.out 1).trans rfl
         have hfs41 := blk_frozen BK162.out 1
         have hns41_0 := NB158_162.out
         have hms41_0 := NB162_158.out
         have hs42 : w39.cell? ⟨gb162, 2, none⟩ = some (.int .i64 0) := (blk_cell BK162.out 2).trans rfl
         have hfs42 := blk_frozen BK162.out 2
         have hns42_0 := NB158_162.out
         have hms42_0 := NB162_158.out
         have hs43 : w39.cell? ⟨gb162, 3, none⟩ = some (.bool false) := (blk_cell BK162.out 3).trans rfl
         have hfs43 := blk_frozen BK162.out 3
         have hns43_0 := NB158_162.out
         have hms43_0 := NB162_158.out
         refine skip_ (w1 := ?_) (by rfl) rfl ?_ ?_
         rotate_left
         ·go_simp
          rfl
         refine hK.out _ _ ⟨((cell_far (p := ⟨gb162, _, none⟩) NB158_162.out _).trans (((cell_far (p := ⟨gb162, _, none⟩) NB158_162.out _).trans (((cell_far (p := ⟨gb162, _, none⟩) NB158_162.out _).trans (((cell_far (p := ⟨gb162, _, none⟩) NB158_162.out _).trans (hHeld.1)))))))), ((cell_far (p := ⟨gb162, _, none⟩) NB158_162.out _).trans (((cell_far (p := ⟨gb162, _, none⟩) NB158_162.out _).trans (((cell_far (p := ⟨gb162, _, none⟩) NB158_162.out _).trans (((cell_far (p := ⟨gb162, _, none⟩) NB158_162.out _).trans (hHeld.2.1)))))))), ((cell_far (p := ⟨gb162, _, none⟩) NB158_162.out _).trans (((cell_far (p := ⟨gb162, _, none⟩) NB158_162.out _).trans (((cell_far (p := ⟨gb162, _, none⟩) NB158_162.out _).trans (((cell_far (p := ⟨gb162, _, none⟩) NB158_162.out _).trans (hHeld.2.2.1)))))))), ((cell_far (p := ⟨gb162, _, none⟩) (q4_1 GW162) _).trans (((cell_far (p := ⟨gb162, _, none⟩) (q4_1 GW162) _).trans (((cell_far (p := ⟨gb162, _, none⟩) (q4_1 GW162) _).trans (((cell_far (p := ⟨gb162, _, none⟩) (q4_1 GW162) _).trans (hHeld.2.2.2.1)))))))), ((cell_far (p := ⟨gb162, _, none⟩) (q4_2 GW162) _).trans (((cell_far (p := ⟨gb162, _, none⟩) (q4_2 GW162) _).trans (((cell_far (p := ⟨gb162, _, none⟩) (q4_2 GW162) _).trans (((cell_far (p := ⟨gb162, _, none⟩) (q4_2 GW162) _).trans (hHeld.2.2.2.2.1)))))))), ((cell_far (p := ⟨gb162, _, none⟩) (q4_3 GW162) _).trans (((cell_far (p := ⟨gb162, _, none⟩) (q4_3 GW162) _).trans (((cell_far (p := ⟨gb162, _, none⟩) (q4_3 GW162) _).trans (((cell_far (p := ⟨gb162, _, none⟩) (q4_3 GW162) _).trans (hHeld.2.2.2.2.2.1)))))))), ((cell_far (p := ⟨gb162, _, none⟩) (q4_4 GW162) _).trans (((cell_far (p := ⟨gb162, _, none⟩) (q4_4 GW162) _).trans (((cell_far (p := ⟨gb162, _, none⟩) (q4_4 GW162) _).trans (((cell_far (p := ⟨gb162, _, none⟩) (q4_4 GW162) _).trans (hHeld.2.2.2.2.2.2.1)))))))), ((cell_far (p := ⟨gb162, _, none⟩) (q4_5 GW162) _).trans (((cell_far (p := ⟨gb162, _, none⟩) (q4_5 GW162) _).trans (((cell_far (p := ⟨gb162, _, none⟩) (q4_5 GW162) _).trans (((cell_far (p := ⟨gb162, _, none⟩) (q4_5 GW162) _).trans (hHeld.2.2.2.2.2.2.2))))))))⟩ (fun hHeld => ?_)
         clear hK K
         refine done_ (done_of HT_.out q4_9) ?_
         have hnb44 := NB162_158.out
         have hnc44 := NB158_162.out
         have hcz45_0 : w39.cell? ⟨gb162, 0, none⟩ = some (.int .u64 0) := (blk_cell BK162.out 0).trans rfl
         have hcz45_1 : w39.cell? ⟨gb162, 1, none⟩ = some (.int .i64 0) := (blk_cell BK162.out 1).trans rfl
         have hcz45_2 : w39.cell? ⟨gb162, 2, none⟩ = some (.int .i64 0) := (blk_cell BK162.out 2).trans rfl
         have hcz45_3 : w39.cell? ⟨gb162, 3, none⟩ = some (.bool false) := (blk_cell BK162.out 3).trans rfl
         have hfz45_0 := blk_frozen BK162.out 0
         have hfz45_1 := blk_frozen BK162.out 1
         have hfz45_2 := blk_frozen BK162.out 2
         have hfz45_3 := blk_frozen BK162.out 3
         try go_wp2_with (first | ((with_reducible refine gate_callee (f := 66) rfl ?_); refine goesL_ (some 62) rfl rfl Try.func66 q4_9 rfl #[.int .u64 x9_1, .int .u64 a1, .int .i64 x11_1, .int .u64 (IntKind.u64.wrap ((l0_0.length : Int)))] rfl q4_11 ?_; (with_reducible refine (spec_l7Next.calls x9_1 a1 x11_1 (IntKind.u64.wrap ((l0_0.length : Int))) t165 _ A36.out).mono ?_); rintro e w' ⟨rfl, ⟨nd, rfl⟩⟩; refine ⟨_, rfl, ?_⟩))
         go_roundg k1
         case measure => have := HK1.out; omega
         case rel => exact ⟨(t165), (wrap64 (x10_1 + 1)), (wrap64 (x11_1 + 1)), q4_10, q4_10, q4_10, H', ⟨(by have := HK1.out; omega)⟩, ⟨(rdi4_1 NB158_162 BK158)⟩, ⟨(rdi4_2 HB GE158 GE162)⟩⟩
        rw [if_neg c24] at H
        have c24b0 : (((rd_T62 l0_1 (rd l0_0 x9_1)).f0) == a1) = false := beq_eq_false_iff_ne.mpr c24
        have c24b1 : (((rd_T62 l0_1 (rd l0_0 x9_1)).f0) != a1) = true := bne_iff_ne.mpr c24
        replace H := Option.bind_eq_some_iff.mp H
        obtain ⟨t166, A460, H⟩ := H
        replace H : (spec_l7Find.l0 k1 a1 a2 (IntKind.u64.wrap ((l0_0.length : Int))) t166 (wrap64 (x10_1 + 1)) (wrap64 (x11_1 + 1)) l0_0 l0_1 a0_2) = some (r1, r2) := H
        have A46 := Aside0.mk A460
        clear A460
        have H' := Aside0.mk H
        clear H
        have hcz47_0 : wr.cell? ⟨gb158, 0, none⟩ = some (.slice A0_0 l0_0.length c0_0) := (blk_cell BK158.out 0).trans rfl
        have hcz47_1 : wr.cell? ⟨gb158, 1, none⟩ = some (.slice A0_1 l0_1.length c0_1) := (blk_cell BK158.out 1).trans rfl
        have hcz47_2 : wr.cell? ⟨gb158, 2, none⟩ = some (.int .i64 a0_2) := (blk_cell BK158.out 2).trans rfl
        have hfz47_0 := blk_frozen BK158.out 0
        have hfz47_1 := blk_frozen BK158.out 1
        have hfz47_2 := blk_frozen BK158.out 2
        have p159 : 0 ≤ (x9_1 : Int) := of_decide_eq_true q4_7
        have q159 : x9_1 < (l0_0.length : Int) := of_decide_eq_true q4_7
        obtain ⟨ad159, e159, hx159_0⟩ := Kd.at_int HR0_0.out x9_1 p159 q159
        cases e159
        replace hx159_0 := (HB.out.cell (World.block_lt_of_cell? w _ hx159_0)).trans hx159_0
        replace p159 := eq_true p159
        replace q159 := eq_true q159
        try go_wp2
        have n0_ := Aside0.mk (blk_drew BK158.out)
        have n1_ := Aside0.mk (below_drew1 HB.out)
        clear BK158 HB
        have BK158 := n0_
        have HB := n1_
        clear n0_ n1_
        have p160 : 0 ≤ (x9_1 : Int) := of_decide_eq_true q4_7
        have q160 : x9_1 < (l0_0.length : Int) := of_decide_eq_true q4_7
        obtain ⟨ad160, e160, hx160_0⟩ := Kd.at_int HR0_0.out x9_1 p160 q160
        have hw160_0 := hx160_0
        obtain rfl : ad159 = ad160 := (by injection e160)
        replace hx160_0 := (HB.out.cell (World.block_lt_of_cell? w _ hx160_0)).trans hx160_0
        replace p160 := eq_true p160
        replace q160 := eq_true q160
        have p161 : 0 ≤ ((rd l0_0 x9_1) : Int) := of_decide_eq_true q4_7
        have q161 : (rd l0_0 x9_1) < (l0_1.length : Int) := of_decide_eq_true q4_7
        obtain ⟨ad161, e161, hx161_0, hx161_1, hx161_2, hx161_3⟩ := at_T62 HR0_1.out (rd l0_0 x9_1) p161 q161
        have hw161_3 := hx161_3
        have hw161_2 := hx161_2
        have hw161_1 := hx161_1
        have hw161_0 := hx161_0
        (try rw [← Nbq12.out] at hx161_3)
        (try rw [← Nbq12.out] at hw161_3)
        cases e161
        replace hx161_0 := (HB.out.cell (World.block_lt_of_cell? w _ hx161_0)).trans hx161_0
        replace hx161_1 := (HB.out.cell (World.block_lt_of_cell? w _ hx161_1)).trans hx161_1
        replace hx161_2 := (HB.out.cell (World.block_lt_of_cell? w _ hx161_2)).trans hx161_2
        replace hx161_3 := (HB.out.cell (World.block_lt_of_cell? w _ hx161_3)).trans hx161_3
        replace p161 := eq_true p161
        replace q161 := eq_true q161
        refine start_ (n := 11) (S := fun w' => w'.cell? ⟨gb158, 0, none⟩ = some (.slice (some ad159) l0_0.length c0_0) ∧ w'.cell? ⟨gb158, 1, none⟩ = some (.slice (some ad161) l0_1.length c0_1) ∧ w'.cell? ⟨gb158, 2, none⟩ = some (.int .i64 a0_2) ∧ w'.cell? (ad159.add (x9_1).toNat) = some (.int .i64 (rd l0_0 x9_1)) ∧ w'.cell? (ad161.add (((rd l0_0 x9_1)).toNat * 4)) = some (.int .u64 ((rd_T62 l0_1 (rd l0_0 x9_1)).f0)) ∧ w'.cell? ⟨(ad161.add (((rd l0_0 x9_1)).toNat * 4)).block, (ad161.add (((rd l0_0 x9_1)).toNat * 4)).off + 1, none⟩ = some (.int .i64 ((rd_T62 l0_1 (rd l0_0 x9_1)).f1)) ∧ w'.cell? ⟨(ad161.add (((rd l0_0 x9_1)).toNat * 4)).block, (ad161.add (((rd l0_0 x9_1)).toNat * 4)).off + 2, none⟩ = some (.int .i64 ((rd_T62 l0_1 (rd l0_0 x9_1)).f2)) ∧ w'.cell? ⟨(ad161.add (((rd l0_0 x9_1)).toNat * 4)).block, (ad161.add (((rd l0_0 x9_1)).toNat * 4)).off + 3, none⟩ = some (.bool false)) (ds := []) (bs_ 11 0) q4_9 rfl rfl ⟨(blk_cell BK158.out 0).trans rfl, (blk_cell BK158.out 1).trans rfl, (blk_cell BK158.out 2).trans rfl, ((HB.out.cell (World.block_lt_of_cell? w _ hw160_0)).trans hw160_0), ((HB.out.cell (World.block_lt_of_cell? w _ hw161_0)).trans hw161_0), ((HB.out.cell (World.block_lt_of_cell? w _ hw161_1)).trans hw161_1), ((HB.out.cell (World.block_lt_of_cell? w _ hw161_2)).trans hw161_2), ((HB.out.cell (World.block_lt_of_cell? w _ hw161_3)).trans hw161_3)⟩ (fun hHeld => ?_); refine with_tabW spec_l7Find.tab7 spec_l7Find.bits7 (fun HT_ HW_ => ?_)
        generalize wr.drew = w48 at BK158 HB hx160_0 hx161_0 hx161_1 hx161_2 hx161_3 hHeld ⊢
        refine pure_ (i := 0) (N := some 28) (bs_ 11 1) rfl rfl (any_of HT_.out q4_9) (fun _ _ _ h => h) (Or.inl ⟨by rfl, qpy_pdix4⟩) qpa_pdix4 ?_
        refine pure_ (i := 2) (N := some 30) (bs_ 11 5) rfl rfl (any_of HT_.out q4_9) (fun _ _ _ h => h) (Or.inl ⟨by rfl, qpy_pdix4⟩) qpa_pdix4 ?_
        refine pure_ (i := 4) (N := some 32) (bs_ 11 21) rfl rfl (any_of HT_.out q4_9) (fun _ _ _ h => h) (Or.inl ⟨by rfl, qpy_pdix4⟩) qpa_pdix4 ?_
        refine take_ (i := 1) (N := some 29) (bs_ 11 23) rfl rfl (take_ofW HT_.out HW_.out q4_9) (fun _ _ _ h => h) (Or.inl ⟨by rfl, qpt8_pdix4⟩) hHeld qpa_pdix4 ?_
        refine take_ (i := 3) (N := some 31) (bs_ 11 31) rfl rfl (take_ofW HT_.out HW_.out q4_9) (fun _ _ _ h => h) (Or.inl ⟨by rfl, qpt8_pdix4⟩) hHeld qpa_pdix4 ?_
        refine pure_ (i := 5) (N := some 33) (bs_ 11 63) rfl rfl (any_of HT_.out q4_9) (fun _ _ _ h => h) (Or.inl ⟨by rfl, qpy_pdix4⟩) qpa_pdix4 ?_
        refine take_ (i := 6) (N := some 34) (bs_ 11 127) rfl rfl (take_ofW HT_.out HW_.out q4_9) (fun _ _ _ h => h) (Or.inl ⟨by rfl, qpt8_pdix4⟩) hHeld qpa_pdix4 ?_
        refine pure_ (i := 7) (N := some 35) (bs_ 11 255) rfl rfl (any_of HT_.out q4_9) (fun _ _ _ h => h) (Or.inl ⟨by rfl, qpy_pdix4⟩) qpa_pdix4 ?_
        refine take_ (i := 8) (N := some 36) (bs_ 11 511) rfl rfl (take_ofW HT_.out HW_.out q4_9) (fun _ _ _ h => h) (Or.inl ⟨by rfl, qpt8_pdix4⟩) hHeld qpa_pdix4 ?_
        refine one_ (i := 9) (N := some 12) (bs_ 11 1023) rfl rfl (one_of HT_.out q4_9) (by decide) (fun K hK => ?_)
        refine box_step ?hg (N := 12) ?hd (cs := #[.int .u64 0, .int .i64 0, .int .i64 0, .bool false]) (t := 62) ?hr ?_; (case hd => rfl); (case hg => rfl); (case hr => exact (by first | (go_simp; done) | (go_simp; rfl)))
        intro gb162 hg w49 hbox hb
        have n0_ := Aside0.mk (blk_below (q4_8 BK158) hb)
        have n1_ := Aside0.mk (below_step (q4_6 HB GE158) hb)
        have n2_ := Aside0.mk (hbox)
        have n3_ := Aside0.mk ((by rw [hg]; exact (below_size (q4_6 HB GE158)) : w.heap.size ≤ gb162))
        have n4_ := Aside0.mk ((by rw [hg]; exact (below_size (q4_6 HB GE158)) : w.heap.size ≤ gb162))
        have n5_ := Aside0.mk ((qnl_pdix4 BK158 hg : gb158 ≠ gb162))
        have n6_ := Aside0.mk ((qng_pdix4 BK158 hg : gb162 ≠ gb158))
        clear BK158 HB
        have BK158 := n0_
        have HB := n1_
        have BK162 := n2_
        have GW162 := n3_
        have GE162 := n4_
        have NB158_162 := n5_
        have NB162_158 := n6_
        clear n0_ n1_ n2_ n3_ n4_ n5_ n6_ hb hbox hg
        refine hK.out _ _ ⟨(blk_cell BK158.out 0).trans rfl, (blk_cell BK158.out 1).trans rfl, (blk_cell BK158.out 2).trans rfl, ((HB.out.cell (World.block_lt_of_cell? w _ hw160_0)).trans hw160_0), ((HB.out.cell (World.block_lt_of_cell? w _ hw161_0)).trans hw161_0), ((HB.out.cell (World.block_lt_of_cell? w _ hw161_1)).trans hw161_1), ((HB.out.cell (World.block_lt_of_cell? w _ hw161_2)).trans hw161_2), ((HB.out.cell (World.block_lt_of_cell? w _ hw161_3)).trans hw161_3)⟩ (fun hHeld => ?_)
        clear hK K
        refine norm_ (a' := ?_) ?_ ?_
        rotate_left
        ·show Act.put _ (some 12) _ = _
         simp only [Act.put, List.setIfInBounds_toArray, List.set_cons_zero, List.set_cons_succ, i64_w, i32_w]
         rfl
        refine one_ (i := 10) (N := none) (bs_ 11 2047) rfl rfl (one_of HT_.out q4_9) (by decide) (fun K hK => ?_)
        have hs50 : w49.cell? ⟨gb162, 0, none⟩ = some (.int .u64 0) := (blk_cell BK162.out 0).trans rfl
        have hfs50 := blk_frozen BK162.out 0
        have hns50_0 := NB158_162.out
        have hms50_0 := NB162_158.out
        have hs51 : w49.cell? ⟨gb162, 1, none⟩ = some (.int .i64 0) := (blk_cell BK162.out 1).trans rfl
        have hfs51 := blk_frozen BK162.out 1
        have hns51_0 := NB158_162.out
        have hms51_0 := NB162_158.out
        have hs52 : w49.cell? ⟨gb162, 2, none⟩ = some (.int .i64 0) := (blk_cell BK162.out 2).trans rfl
        have hfs52 := blk_frozen BK162.out 2
        have hns52_0 := NB158_162.out
        have hms52_0 := NB162_158.out
        have hs53 : w49.cell? ⟨gb162, 3, none⟩ = some (.bool false) := (blk_cell BK162.out 3).trans rfl
        have hfs53 := blk_frozen BK162.out 3
        have hns53_0 := NB158_162.out
        have hms53_0 := NB162_158.out
        refine skip_ (w1 := ?_) (by rfl) rfl ?_ ?_
        rotate_left
        ·go_simp
         rfl
        refine hK.out _ _ ⟨((cell_far (p := ⟨gb162, _, none⟩) NB158_162.out _).trans (((cell_far (p := ⟨gb162, _, none⟩) NB158_162.out _).trans (((cell_far (p := ⟨gb162, _, none⟩) NB158_162.out _).trans (((cell_far (p := ⟨gb162, _, none⟩) NB158_162.out _).trans (hHeld.1)))))))), ((cell_far (p := ⟨gb162, _, none⟩) NB158_162.out _).trans (((cell_far (p := ⟨gb162, _, none⟩) NB158_162.out _).trans (((cell_far (p := ⟨gb162, _, none⟩) NB158_162.out _).trans (((cell_far (p := ⟨gb162, _, none⟩) NB158_162.out _).trans (hHeld.2.1)))))))), ((cell_far (p := ⟨gb162, _, none⟩) NB158_162.out _).trans (((cell_far (p := ⟨gb162, _, none⟩) NB158_162.out _).trans (((cell_far (p := ⟨gb162, _, none⟩) NB158_162.out _).trans (((cell_far (p := ⟨gb162, _, none⟩) NB158_162.out _).trans (hHeld.2.2.1)))))))), ((cell_far (p := ⟨gb162, _, none⟩) (q4_1 GW162) _).trans (((cell_far (p := ⟨gb162, _, none⟩) (q4_1 GW162) _).trans (((cell_far (p := ⟨gb162, _, none⟩) (q4_1 GW162) _).trans (((cell_far (p := ⟨gb162, _, none⟩) (q4_1 GW162) _).trans (hHeld.2.2.2.1)))))))), ((cell_far (p := ⟨gb162, _, none⟩) (q4_2 GW162) _).trans (((cell_far (p := ⟨gb162, _, none⟩) (q4_2 GW162) _).trans (((cell_far (p := ⟨gb162, _, none⟩) (q4_2 GW162) _).trans (((cell_far (p := ⟨gb162, _, none⟩) (q4_2 GW162) _).trans (hHeld.2.2.2.2.1)))))))), ((cell_far (p := ⟨gb162, _, none⟩) (q4_3 GW162) _).trans (((cell_far (p := ⟨gb162, _, none⟩) (q4_3 GW162) _).trans (((cell_far (p := ⟨gb162, _, none⟩) (q4_3 GW162) _).trans (((cell_far (p := ⟨gb162, _, none⟩) (q4_3 GW162) _).trans (hHeld.2.2.2.2.2.1)))))))), ((cell_far (p := ⟨gb162, _, none⟩) (q4_4 GW162) _).trans (((cell_far (p := ⟨gb162, _, none⟩) (q4_4 GW162) _).trans (((cell_far (p := ⟨gb162, _, none⟩) (q4_4 GW162) _).trans (((cell_far (p := ⟨gb162, _, none⟩) (q4_4 GW162) _).trans (hHeld.2.2.2.2.2.2.1)))))))), ((cell_far (p := ⟨gb162, _, none⟩) (q4_5 GW162) _).trans (((cell_far (p := ⟨gb162, _, none⟩) (q4_5 GW162) _).trans (((cell_far (p := ⟨gb162, _, none⟩) (q4_5 GW162) _).trans (((cell_far (p := ⟨gb162, _, none⟩) (q4_5 GW162) _).trans (hHeld.2.2.2.2.2.2.2))))))))⟩ (fun hHeld => ?_)
        clear hK K
        refine done_ (done_of HT_.out q4_9) ?_
        have hnb54 := NB162_158.out
        have hnc54 := NB158_162.out
        have hcz55_0 : w49.cell? ⟨gb162, 0, none⟩ = some (.int .u64 0) := (blk_cell BK162.out 0).trans rfl
        have hcz55_1 : w49.cell? ⟨gb162, 1, none⟩ = some (.int .i64 0) := (blk_cell BK162.out 1).trans rfl
        have hcz55_2 : w49.cell? ⟨gb162, 2, none⟩ = some (.int .i64 0) := (blk_cell BK162.out 2).trans rfl
        have hcz55_3 : w49.cell? ⟨gb162, 3, none⟩ = some (.bool false) := (blk_cell BK162.out 3).trans rfl
        have hfz55_0 := blk_frozen BK162.out 0
        have hfz55_1 := blk_frozen BK162.out 1
        have hfz55_2 := blk_frozen BK162.out 2
        have hfz55_3 := blk_frozen BK162.out 3
        try go_wp2_with (first | ((with_reducible refine gate_callee (f := 66) rfl ?_); refine goesL_ (some 62) rfl rfl Try.func66 q4_9 rfl #[.int .u64 x9_1, .int .u64 a1, .int .i64 x11_1, .int .u64 (IntKind.u64.wrap ((l0_0.length : Int)))] rfl q4_11 ?_; (with_reducible refine (spec_l7Next.calls x9_1 a1 x11_1 (IntKind.u64.wrap ((l0_0.length : Int))) t166 _ A46.out).mono ?_); rintro e w' ⟨rfl, ⟨nd, rfl⟩⟩; refine ⟨_, rfl, ?_⟩))
        go_roundg k1
        case measure => have := HK1.out; omega
        case rel => exact ⟨(t166), (wrap64 (x10_1 + 1)), (wrap64 (x11_1 + 1)), q4_10, q4_10, q4_10, H', ⟨(by have := HK1.out; omega)⟩, ⟨(rdi4_1 NB158_162 BK158)⟩, ⟨(rdi4_2 HB GE158 GE162)⟩⟩
       rw [if_neg c11] at H
       exact absurd H (by simp)
      rw [if_neg c10] at H
      exact absurd H (by simp)
     rw [if_neg c9] at H
     have c9b0 : decide (0 ≤ (rd l0_0 x9_1)) = false := decide_eq_false c9
     clear c9
     simp only [Option.some.injEq, Prod.mk.injEq] at H
     obtain ⟨rfl, rfl⟩ := H
     have hcz56_0 : wr.cell? ⟨gb158, 0, none⟩ = some (.slice A0_0 l0_0.length c0_0) := (blk_cell BK158.out 0).trans rfl
     have hcz56_1 : wr.cell? ⟨gb158, 1, none⟩ = some (.slice A0_1 l0_1.length c0_1) := (blk_cell BK158.out 1).trans rfl
     have hcz56_2 : wr.cell? ⟨gb158, 2, none⟩ = some (.int .i64 a0_2) := (blk_cell BK158.out 2).trans rfl
     have hfz56_0 := blk_frozen BK158.out 0
     have hfz56_1 := blk_frozen BK158.out 1
     have hfz56_2 := blk_frozen BK158.out 2
     have p159 : 0 ≤ (x9_1 : Int) := of_decide_eq_true q4_7
     have q159 : x9_1 < (l0_0.length : Int) := of_decide_eq_true q4_7
     obtain ⟨ad159, e159, hx159_0⟩ := Kd.at_int HR0_0.out x9_1 p159 q159
     cases e159
     replace hx159_0 := (HB.out.cell (World.block_lt_of_cell? w _ hx159_0)).trans hx159_0
     replace p159 := eq_true p159
     replace q159 := eq_true q159
     go_wp2
     go_ret2
     exact ⟨(by first | rfl | (simp [errW_none, errW_some] <;> rfl) | (simp [*, errW_none, errW_some] <;> rfl)), (by repeat (first | (with_reducible first | exact HB.out | apply below_alloc | apply pw_below_drewN | apply below_drew1 | refine below_set ?_ GE158.out) | exact HB.out))⟩
    rw [if_neg c8] at H
    exact absurd H (by simp)
   rw [if_neg c7] at H
   exact absurd H (by simp)
end Go.Proofs.Ytohilfkdfcihgaa.PDi
