/- Go functions as Lean functions, and that each Go function comes to just that; printed by a program of this session (gprint.py over the kit's print.py). No condition. -/
import Derived.Test.YtohilfkdfcihgaaPDix0
import Derived.Test.YtohilfkdfcihgaaPDix3
import Derived.Test.YtohilfkdfcihgaaPDix4
namespace Go.Proofs.Ytohilfkdfcihgaa.PDi
open Go.RowKit Go.Proofs.YtohilfkdfcihgaaW.PrintWords Go.Proofs.YtohilfkdfcihgaaW.PrintLast Go.Proofs.YtohilfkdfcihgaaW.PrintMore
attribute [local go_sem] max2_int min2_int max_two min_two max_three min_three max_four min_four   -- for this text's walks alone
set_option linter.unusedVariables false
set_option linter.unusedSimpArgs false
theorem qpa_pdix5 {P : Prop} (h : P := by simp only [Act.put, List.setIfInBounds_toArray, List.set_cons_zero, List.set_cons_succ, i64_w, i32_w]; rfl) : P := h
theorem qnl_pdix5 {w : World} {g n : Nat} {cs : Array Value} {t : TypeId} {fr : Nat × Nat} {Q : Prop} (y : Q) (hg : n = w.heap.size) (h : Q → w.heap[g]? = some (.cells cs t fr) := by intro y_; (with_reducible repeat (first | refine blk_drewN ?_ _ | refine blk_drew ?_ | refine blk_alloc ?_ _)); exact y_.out) : g ≠ n := by
  rw [hg]; exact Nat.ne_of_lt (blk_lt (h y))
theorem qng_pdix5 {w : World} {g n : Nat} {cs : Array Value} {t : TypeId} {fr : Nat × Nat} {Q : Prop} (y : Q) (hg : n = w.heap.size) (h : Q → w.heap[g]? = some (.cells cs t fr) := by intro y_; (with_reducible repeat (first | refine blk_drewN ?_ _ | refine blk_drew ?_ | refine blk_alloc ?_ _)); exact y_.out) : n ≠ g := by
  rw [hg]; exact Nat.ne_of_gt (blk_lt (h y))
theorem qpy_pdix5 {P : Prop} (h : P := by intro w'; go_simp; with_reducible rfl) : P := h
theorem qpt11_pdix5 {P : Prop} (h : P := by rintro w' ⟨s0, s1, s2, s3, s4, s5, s6, s7, s8, s9, s10⟩; go_simp; with_reducible rfl) : P := h
theorem qpt5_pdix5 {P : Prop} (h : P := by rintro w' ⟨s0, s1, s2, s3, s4⟩; go_simp; with_reducible rfl) : P := h
theorem rdi5_1 {P Q0 Q1 : Prop} (y0 : Q0) (y1 : Q1) (h : Q0 → Q1 → P := by intro y0_ y1_; repeat (first | (with_reducible first | exact y0_.out | apply below_alloc | apply pw_below_drewN | apply below_drew1 | refine below_set ?_ y1_.out) | exact y0_.out)) : P := h y0 y1
theorem rdi5_2 {P Q0 : Prop} (y0 : Q0) (h : Q0 → P := by intro y0_; (with_reducible repeat (first | refine blk_drewN ?_ _ | refine blk_drew ?_ | refine blk_alloc ?_ _)); exact y0_.out) : P := h y0
theorem rdi5_3 {P Q0 Q1 : Prop} (y0 : Q0) (y1 : Q1) (h : Q0 → Q1 → P := by intro y0_ y1_; (with_reducible repeat (first | refine blk_drewN ?_ _ | refine blk_drew ?_ | refine blk_alloc ?_ _)); refine blk_far ?_ y0_.out _; (with_reducible repeat (first | refine blk_drewN ?_ _ | refine blk_drew ?_ | refine blk_alloc ?_ _)); refine blk_far ?_ y0_.out _; (with_reducible repeat (first | refine blk_drewN ?_ _ | refine blk_drew ?_ | refine blk_alloc ?_ _)); refine blk_far ?_ y0_.out _; (with_reducible repeat (first | refine blk_drewN ?_ _ | refine blk_drew ?_ | refine blk_alloc ?_ _)); refine blk_far ?_ y0_.out _; (with_reducible repeat (first | refine blk_drewN ?_ _ | refine blk_drew ?_ | refine blk_alloc ?_ _)); exact y1_.out) : P := h y0 y1
theorem rdi5_4 {P : Prop} (h : P := by first | rfl | (simp [errW_none, errW_some] <;> rfl) | (simp [*, errW_none, errW_some] <;> rfl)) : P := h
theorem rdi5_5 {P Q0 Q1 Q2 : Prop} (y0 : Q0) (y1 : Q1) (y2 : Q2) (h : Q0 → Q1 → Q2 → P := by intro y0_ y1_ y2_; repeat (first | (with_reducible first | exact y0_.out | apply below_alloc | apply pw_below_drewN | apply below_drew1 | refine below_set ?_ y1_.out | refine below_set ?_ y2_.out) | exact y0_.out)) : P := h y0 y1 y2
theorem q5_1 {P Q0 Q1 : Prop} (y0 : Q0) (y1 : Q1) (h : Q0 → Q1 → P := by intro y0_ y1_; repeat (first | (with_reducible first | exact y0_.out | apply below_alloc | apply pw_below_drewN | apply below_drew1 | refine below_set ?_ y1_.out) | exact y0_.out)) : P := h y0 y1
theorem q5_2 {P Q0 : Prop} (y0 : Q0) (h : Q0 → P := by intro y0_; (with_reducible repeat (first | refine blk_drewN ?_ _ | refine blk_drew ?_ | refine blk_alloc ?_ _)); exact y0_.out) : P := h y0
theorem q5_3 {P : Prop} (h : P := by first | (with_reducible assumption) | assumption) : P := h
theorem q5_4 {P : Prop} (h : P := by kernel_rfl) : P := h
theorem q5_5 {P Q0 Q1 : Prop} (y0 : Q0) (y1 : Q1) (h : Q0 → Q1 → P := by intro y0_ y1_; repeat (first | exact (Kd.C_below y0_.out y1_.out) | (with_reducible refine Kd.C_alloc ?_ _) | (with_reducible refine Kd.C_drewN ?_ _) | (with_reducible refine Kd.C_drew ?_))) : P := h y0 y1
theorem q5_6 {P : Prop} (h : P := by (try simp only [List.map_toArray, List.map_cons, List.map_nil]); first | done | rfl | (simp only [List.length_drop, List.length_take]; rfl)) : P := h
theorem q5_7 {P : Prop} (h : P := by first | rfl | (simp; done) | (simp [*]; done)) : P := h
theorem q5_8 {P Q0 : Prop} (y0 : Q0) (h : Q0 → P := by intro y0_; repeat (first | (with_reducible first | exact y0_.out | apply below_alloc | apply pw_below_drewN | apply below_drew1) | exact y0_.out)) : P := h y0
mutual
def spec_DictOk.j0 : Nat → Int → Bool → List Int → List (S62) → Int → Option (Bool)
 | 0, _, _, _, _, _ => none
 | k + 1, x3, x26, x168000, x168001, x168002 => if x26 = true then (some false) else (spec_DictOk.l0 k x3 0 0 x168000 x168001 x168002)
def spec_DictOk.l0 : Nat → Int → Int → Int → List Int → List (S62) → Int → Option (Bool)
 | 0, _, _, _, _, _, _ => none
 | k + 1, x3, x4, x5, x168000, x168001, x168002 => if x5 < (x168001.length : Int) then (if 0 ≤ x5 then (if (rd_T62 x168001 x5).f3 = true then (if ((rd_T62 x168001 x5).f1) = 0 then (if ((rd_T62 x168001 x5).f2) = 0 then (spec_DictOk.l0 k x3 x4 (wrap64 (x5 + 1)) x168000 x168001 x168002) else (some false)) else (some false)) else (spec_DictOk.l0 k x3 (wrap64 (x4 + 1)) (wrap64 (x5 + 1)) x168000 x168001 x168002)) else (none)) else (if x4 = x168002 then ((spec_l7Table.f k x168001 x3).bind fun t171 => (spec_DictOk.l1 k x3 t171 0 x168000 x168001 x168002)) else (some false))
def spec_DictOk.l1 : Nat → Int → List Int → Int → List Int → List (S62) → Int → Option (Bool)
 | 0, _, _, _, _, _, _ => none
 | k + 1, x3, x7, x8, x168000, x168001, x168002 => if x8 < x3 then (if 0 ≤ x8 then (if x8 < (x7.length : Int) then (if x8 < (x168000.length : Int) then (if (rd x7 x8) = (rd x168000 x8) then (spec_DictOk.l1 k x3 x7 (wrap64 (x8 + 1)) x168000 x168001 x168002) else (some false)) else (none)) else (none)) else (none)) else (spec_DictOk.l2 k 0 x168000 x168001 x168002)
def spec_DictOk.l2 : Nat → Int → List Int → List (S62) → Int → Option (Bool)
 | 0, _, _, _, _ => none
 | k + 1, x9, x168000, x168001, x168002 => if x9 < (x168001.length : Int) then (if 0 ≤ x9 then (if ((rd_T62 x168001 x9).f3 = true) then (spec_DictOk.l2 k (wrap64 (x9 + 1)) x168000 x168001 x168002) else ((spec_l7Find.f k x168000 x168001 x168002 ((rd_T62 x168001 x9).f0) ((rd_T62 x168001 x9).f1)).bind fun bt179 => (if bt179.1 = x9 then (spec_DictOk.l2 k (wrap64 (x9 + 1)) x168000 x168001 x168002) else (some false)))) else (none)) else (some true)
end
def spec_DictOk.f (k : Nat) (l0_0 : List Int) (l0_1 : List (S62)) (a0_2 : Int) : Option (Bool) := (spec_l7Size.f k (l0_0.length : Int)).bind fun t168 => (if t168 = true then (spec_DictOk.j0 k (l0_0.length : Int) (decide ((l0_1.length : Int) > (wrap64 (Int.tdiv (wrap64 ((l0_0.length : Int) * 2)) 3)))) l0_0 l0_1 a0_2) else (spec_DictOk.j0 k (l0_0.length : Int) true l0_0 l0_1 a0_2))
def spec_DictOk.T19 : Bool × List (List Nat × List Nat) := (true, [([], []), ([], []), ([0, 1], [0, 1]), ([2], [2]), ([], []), ([4], [4]), ([], []), ([5, 6], [5, 6]), ([7], [7]), ([3, 8], [3, 8])])
def spec_DictOk.B19 : List Nat := [0, 0, 3, 7, 0, 16, 0, 112, 240, 511]
theorem spec_DictOk.tab19 : rtab .any (opsOf Try.f20 19) = spec_DictOk.T19 := by kernel_rfl
theorem spec_DictOk.bits19 : waitsOk spec_DictOk.T19.2 spec_DictOk.B19 = true := by kernel_rfl
def spec_DictOk.T25 : Bool × List (List Nat × List Nat) := (true, [([], []), ([], []), ([1], [1]), ([], []), ([2, 3], [2, 3]), ([4], [4]), ([5], [5]), ([], []), ([7], [7]), ([], []), ([8, 9], [8, 9]), ([10], [10]), ([11], [11]), ([0, 6, 12], [0, 6, 12]), ([13], [13]), ([14], [14]), ([14], [14]), ([15, 13, 0, 1, 2, 3, 4, 5, 6, 7, 8, 9, 10, 11, 12, 13, 14, 15], [15]), ([16, 17, 0, 1, 2, 3, 4, 5, 6, 7, 8, 9, 10, 11, 12, 13, 14, 15, 16, 17], [16])])
def spec_DictOk.B25 : List Nat := [0, 0, 2, 0, 14, 30, 62, 0, 128, 0, 896, 1920, 3968, 8191, 16383, 32767, 32767, 65535, 262143]
theorem spec_DictOk.tab25 : rtab .any (opsOf Try.f20 25) = spec_DictOk.T25 := by kernel_rfl
theorem spec_DictOk.bits25 : waitsOk spec_DictOk.T25.2 spec_DictOk.B25 = true := by kernel_rfl
set_option maxHeartbeats 8000000 in
set_option maxRecDepth 100000 in
theorem spec_DictOk.calls (k : Nat) (A0_0 : Option Addr) (c0_0 : Nat) (l0_0 : List Int) (A0_1 : Option Addr) (c0_1 : Nat) (l0_1 : List (S62)) (a0_2 : Int) (r : Bool) (w : World) (hr0_0 : Kd.C (Kd.int .i64) w A0_0 l0_0.length l0_0) (hc0_0 : l0_0.length ≤ c0_0) (hr0_1 : Kd.C k62 w A0_1 l0_1.length l0_1) (hc0_1 : l0_1.length ≤ c0_1) (h : spec_DictOk.f k l0_0 l0_1 a0_2 = some r) :
  Calls Try.prog 20 #[.agg #[.slice A0_0 l0_0.length c0_0, .slice A0_1 l0_1.length c0_1, .int .i64 a0_2]] w fun e w' => e = .returned (.bool r) ∧ Below w.heap.size w w' := by
 have hu25 := Try.underlying25
 have hu62 := Try.underlying62
 have HR0_0 := Aside0.mk hr0_0
 have HC0_0 := Aside0.mk hc0_0
 clear hr0_0 hc0_0
 have HR0_1 := Aside0.mk hr0_1
 have HC0_1 := Aside0.mk hc0_1
 clear hr0_1 hc0_1
 have HB := Aside0.mk (Below.refl w.heap.size w)
 have H : ((spec_l7Size.f k (l0_0.length : Int)).bind fun t168 => (if t168 = true then (spec_DictOk.j0 k (l0_0.length : Int) (decide ((l0_1.length : Int) > (wrap64 (Int.tdiv (wrap64 ((l0_0.length : Int) * 2)) 3)))) l0_0 l0_1 a0_2) else (spec_DictOk.j0 k (l0_0.length : Int) true l0_0 l0_1 a0_2))) = some r := h
 clear h
 have HC2 := Aside0.mk H
 clear H
 go_enter Try.func20, Try.ntmps20
 go_upto_region 2 with (first | ((with_reducible refine gate_dst (N := 1) rfl ?_); (try (refine gate_guard (by rfl) ?_; dsimp only)); refine box_event ?hg (N := 1) ?hd (cs := #[.slice A0_0 l0_0.length c0_0, .slice A0_1 l0_1.length c0_1, .int .i64 a0_2]) (t := 25) ?hr ?_; (case hd => rfl); (case hg => rfl); (case hr => exact (by first | (go_simp; done) | (go_simp; rfl))); intro gb167 hg w3 hbox hb; have n0_ := Aside0.mk (below_step (q5_8 HB) hb); have n1_ := Aside0.mk (hbox); have n2_ := Aside0.mk ((by rw [hg]; exact (below_size (q5_8 HB)) : w.heap.size ≤ gb167)); have n3_ := Aside0.mk ((by rw [hg]; exact (below_size (q5_8 HB)) : w.heap.size ≤ gb167)); clear HB; have HB := n0_; have BK167 := n1_; have GW167 := n2_; have GE167 := n3_; clear n0_ n1_ n2_ n3_; clear hb hbox hg; have hcz4_0 : w3.cell? ⟨gb167, 0, none⟩ = some (.slice A0_0 l0_0.length c0_0) := (blk_cell BK167.out 0).trans rfl; have hcz4_1 : w3.cell? ⟨gb167, 1, none⟩ = some (.slice A0_1 l0_1.length c0_1) := (blk_cell BK167.out 1).trans rfl; have hcz4_2 : w3.cell? ⟨gb167, 2, none⟩ = some (.int .i64 a0_2) := (blk_cell BK167.out 2).trans rfl; have hfz4_0 := blk_frozen BK167.out 0; have hfz4_1 := blk_frozen BK167.out 1; have hfz4_2 := blk_frozen BK167.out 2))
 (try simp only [Act.put, List.setIfInBounds_toArray, List.set_cons_zero, List.set_cons_succ])
 go_cut [26] (fun v26 wc => ∃ (kq : Nat) (x26_1 : Bool), v26 = .bool x26_1 ∧ Aside0 (spec_DictOk.j0 kq (l0_0.length : Int) x26_1 l0_0 l0_1 a0_2 = some r) ∧ Aside0 (kq ≤ k) ∧ Aside0 (wc.heap[gb167]? = some (.cells #[(.slice A0_0 l0_0.length c0_0), (.slice A0_1 l0_1.length c0_1), .int .i64 a0_2] 25 (0, 0))) ∧ Aside0 (Below w.heap.size w wc))
 case first =>
  have H := HC2.out
  clear HC2
  replace H := Option.bind_eq_some_iff.mp H
  obtain ⟨t168, A50, H⟩ := H
  replace H : (if t168 = true then (spec_DictOk.j0 k (l0_0.length : Int) (decide ((l0_1.length : Int) > (wrap64 (Int.tdiv (wrap64 ((l0_0.length : Int) * 2)) 3)))) l0_0 l0_1 a0_2) else (spec_DictOk.j0 k (l0_0.length : Int) true l0_0 l0_1 a0_2)) = some r := H
  have A5 := Aside0.mk A50
  clear A50
  by_cases c6 : t168 = true
  ·subst c6
   have H1 : (spec_DictOk.j0 k (l0_0.length : Int) (decide ((l0_1.length : Int) > (wrap64 (Int.tdiv (wrap64 ((l0_0.length : Int) * 2)) 3)))) l0_0 l0_1 a0_2) = some r := by rw [if_pos rfl] at H; exact H
   clear H
   have H := H1
   clear H1
   have H' := Aside0.mk H
   clear H
   go_wp2_with (first | ((with_reducible refine gate_callee (f := 54) rfl ?_); refine goesL_ (some 16) rfl rfl Try.func54 q5_4 rfl #[.int .i64 (l0_0.length : Int)] rfl q5_6 ?_; (with_reducible refine (spec_l7Size.calls k (l0_0.length : Int) true _ A5.out).mono ?_); rintro e w' ⟨rfl, ⟨nd, rfl⟩⟩; refine ⟨_, rfl, ?_⟩; have hcz7_0 : w3.cell? ⟨gb167, 0, none⟩ = some (.slice A0_0 l0_0.length c0_0) := (blk_cell BK167.out 0).trans rfl; have hcz7_1 : w3.cell? ⟨gb167, 1, none⟩ = some (.slice A0_1 l0_1.length c0_1) := (blk_cell BK167.out 1).trans rfl; have hcz7_2 : w3.cell? ⟨gb167, 2, none⟩ = some (.int .i64 a0_2) := (blk_cell BK167.out 2).trans rfl; have hfz7_0 := blk_frozen BK167.out 0; have hfz7_1 := blk_frozen BK167.out 1; have hfz7_2 := blk_frozen BK167.out 2))
   go_meet
   case rel => exact ⟨_, (decide ((l0_1.length : Int) > (wrap64 (Int.tdiv (wrap64 ((l0_0.length : Int) * 2)) 3)))), q5_7, H', ⟨(by first | omega | exact Nat.le_refl _)⟩, ⟨(rdi5_2 BK167)⟩, ⟨(rdi5_1 HB GE167)⟩⟩
  replace c6 := Bool.eq_false_iff.mpr c6
  subst c6
  have H1 : (spec_DictOk.j0 k (l0_0.length : Int) true l0_0 l0_1 a0_2) = some r := by rw [if_neg (show ¬ (false = true) by decide)] at H; exact H
  clear H
  have H := H1
  clear H1
  have H' := Aside0.mk H
  clear H
  go_wp2_with (first | ((with_reducible refine gate_callee (f := 54) rfl ?_); refine goesL_ (some 16) rfl rfl Try.func54 q5_4 rfl #[.int .i64 (l0_0.length : Int)] rfl q5_6 ?_; (with_reducible refine (spec_l7Size.calls k (l0_0.length : Int) false _ A5.out).mono ?_); rintro e w' ⟨rfl, ⟨nd, rfl⟩⟩; refine ⟨_, rfl, ?_⟩))
  go_meet
  case rel => exact ⟨_, (true), q5_7, H', ⟨(by first | omega | exact Nat.le_refl _)⟩, ⟨(rdi5_2 BK167)⟩, ⟨(rdi5_1 HB GE167)⟩⟩
 case rest =>
  clear HC2
  obtain ⟨kq, x26_1, rfl, HA, HJ1, BK167, HB⟩ := hcut
  cases kq with
  | zero => exact absurd HA.out (by simp [spec_DictOk.j0])
  | succ kj1 =>
   have H := HA.out
   clear HA
   simp only [spec_DictOk.j0] at H
   by_cases c8 : x26_1 = true
   ·subst c8
    have H1 : (some false) = some r := by rw [if_pos rfl] at H; exact H
    clear H
    have H := H1
    clear H1
    obtain rfl := Option.some.inj H
    go_wp2
    go_ret
    exact ⟨rdi5_4, (rdi5_1 HB GE167)⟩
   replace c8 := Bool.eq_false_iff.mpr c8
   subst c8
   have H1 : (spec_DictOk.l0 kj1 (l0_0.length : Int) 0 0 l0_0 l0_1 a0_2) = some r := by rw [if_neg (show ¬ (false = true) by decide)] at H; exact H
   clear H
   have H := H1
   clear H1
   have H' := Aside0.mk H
   clear H
   go_wp2
   go_loopg [4, 5] kj1 (fun kq v4 v5 w' => ∃ (x4_2 : Int) (x5_2 : Int), v4 = .int .i64 x4_2 ∧ v5 = .int .i64 x5_2 ∧ Aside0 (spec_DictOk.l0 kq (l0_0.length : Int) x4_2 x5_2 l0_0 l0_1 a0_2 = some r) ∧ Aside0 (kq ≤ kj1) ∧ Aside0 (w'.heap[gb167]? = some (.cells #[(.slice A0_0 l0_0.length c0_0), (.slice A0_1 l0_1.length c0_1), .int .i64 a0_2] 25 (0, 0))) ∧ Aside0 (Below w.heap.size w w'))
   case atStart => exact ⟨(0), (0), q5_7, q5_7, H', ⟨Nat.le_refl _⟩, ⟨(rdi5_2 BK167)⟩, ⟨(rdi5_1 HB GE167)⟩⟩
   case round =>
    clear H'
    obtain ⟨x4_2, x5_2, rfl, rfl, HA, HK2, BK167, HB⟩ := hrel
    cases gk with
    | zero => exact absurd HA.out (by simp [spec_DictOk.l0])
    | succ k2 =>
     have H := HA.out
     clear HA
     simp only [spec_DictOk.l0] at H
     by_cases c9 : x5_2 < (l0_1.length : Int)
     ·rw [if_pos c9] at H
      have c9b0 : decide (x5_2 < (l0_1.length : Int)) = true := decide_eq_true c9
      clear c9
      by_cases c10 : 0 ≤ x5_2
      ·rw [if_pos c10] at H
       have c10b0 : decide (0 ≤ x5_2) = true := decide_eq_true c10
       clear c10
       obtain ⟨bq11, hbq11⟩ : ∃ b_ : Bool, b_ = ((rd_T62 l0_1 x5_2).f3) := ⟨_, rfl⟩
       replace H : (if bq11 = true then (if ((rd_T62 l0_1 x5_2).f1) = 0 then (if ((rd_T62 l0_1 x5_2).f2) = 0 then (spec_DictOk.l0 k2 (l0_0.length : Int) x4_2 (wrap64 (x5_2 + 1)) l0_0 l0_1 a0_2) else (some false)) else (some false)) else (spec_DictOk.l0 k2 (l0_0.length : Int) (wrap64 (x4_2 + 1)) (wrap64 (x5_2 + 1)) l0_0 l0_1 a0_2)) = some r := by rw [← hbq11] at H; exact H
       have Nbq11 := Aside0.mk hbq11
       clear hbq11
       by_cases c12 : bq11 = true
       ·subst c12
        have H1 : (if ((rd_T62 l0_1 x5_2).f1) = 0 then (if ((rd_T62 l0_1 x5_2).f2) = 0 then (spec_DictOk.l0 k2 (l0_0.length : Int) x4_2 (wrap64 (x5_2 + 1)) l0_0 l0_1 a0_2) else (some false)) else (some false)) = some r := by rw [if_pos rfl] at H; exact H
        clear H
        have H := H1
        clear H1
        by_cases c13 : ((rd_T62 l0_1 x5_2).f1) = 0
        ·rw [if_pos c13] at H
         have c13b0 : (((rd_T62 l0_1 x5_2).f1) == 0) = true := beq_iff_eq.mpr c13
         have c13b1 : (((rd_T62 l0_1 x5_2).f1) != 0) = false := bne_eq_false_iff_eq.mpr c13
         clear c13
         by_cases c14 : ((rd_T62 l0_1 x5_2).f2) = 0
         ·rw [if_pos c14] at H
          have c14b0 : (((rd_T62 l0_1 x5_2).f2) == 0) = true := beq_iff_eq.mpr c14
          have c14b1 : (((rd_T62 l0_1 x5_2).f2) != 0) = false := bne_eq_false_iff_eq.mpr c14
          clear c14
          have H' := Aside0.mk H
          clear H
          have hcz15_0 : wr.cell? ⟨gb167, 0, none⟩ = some (.slice A0_0 l0_0.length c0_0) := (blk_cell BK167.out 0).trans rfl
          have hcz15_1 : wr.cell? ⟨gb167, 1, none⟩ = some (.slice A0_1 l0_1.length c0_1) := (blk_cell BK167.out 1).trans rfl
          have hcz15_2 : wr.cell? ⟨gb167, 2, none⟩ = some (.int .i64 a0_2) := (blk_cell BK167.out 2).trans rfl
          have hfz15_0 := blk_frozen BK167.out 0
          have hfz15_1 := blk_frozen BK167.out 1
          have hfz15_2 := blk_frozen BK167.out 2
          have p169 : 0 ≤ (x5_2 : Int) := of_decide_eq_true q5_3
          have q169 : x5_2 < (l0_1.length : Int) := of_decide_eq_true q5_3
          obtain ⟨ad169, e169, hx169_0, hx169_1, hx169_2, hx169_3⟩ := at_T62 HR0_1.out x5_2 p169 q169
          (try rw [← Nbq11.out] at hx169_3)
          (try rw [← Nbq11.out] at hw169_3)
          cases e169
          replace hx169_0 := (HB.out.cell (World.block_lt_of_cell? w _ hx169_0)).trans hx169_0
          replace hx169_1 := (HB.out.cell (World.block_lt_of_cell? w _ hx169_1)).trans hx169_1
          replace hx169_2 := (HB.out.cell (World.block_lt_of_cell? w _ hx169_2)).trans hx169_2
          replace hx169_3 := (HB.out.cell (World.block_lt_of_cell? w _ hx169_3)).trans hx169_3
          replace p169 := eq_true p169
          replace q169 := eq_true q169
          go_wp2_with (first | ((with_reducible refine gate_dst (N := 6) rfl ?_); (try (refine gate_guard (by rfl) ?_; dsimp only)); refine box_event ?hg (N := 6) ?hd (cs := #[.int .u64 0, .int .i64 0, .int .i64 0, .bool false]) (t := 62) ?hr ?_; (case hd => rfl); (case hg => rfl); (case hr => exact (by first | (go_simp; done) | (go_simp; rfl))); intro gb170 hg w16 hbox hb; have n0_ := Aside0.mk (blk_below (q5_2 BK167) hb); have n1_ := Aside0.mk (below_step (q5_1 HB GE167) hb); have n2_ := Aside0.mk (hbox); have n3_ := Aside0.mk ((by rw [hg]; exact (below_size (q5_1 HB GE167)) : w.heap.size ≤ gb170)); have n4_ := Aside0.mk ((by rw [hg]; exact (below_size (q5_1 HB GE167)) : w.heap.size ≤ gb170)); have n5_ := Aside0.mk ((qnl_pdix5 BK167 hg : gb167 ≠ gb170)); have n6_ := Aside0.mk ((qng_pdix5 BK167 hg : gb170 ≠ gb167)); clear BK167 HB; have BK167 := n0_; have HB := n1_; have BK170 := n2_; have GW170 := n3_; have GE170 := n4_; have NB167_170 := n5_; have NB170_167 := n6_; clear n0_ n1_ n2_ n3_ n4_ n5_ n6_; clear hb hbox hg; have hnb17 := NB170_167.out; have hnc17 := NB167_170.out; have hcz18_0 : w16.cell? ⟨gb170, 0, none⟩ = some (.int .u64 0) := (blk_cell BK170.out 0).trans rfl; have hcz18_1 : w16.cell? ⟨gb170, 1, none⟩ = some (.int .i64 0) := (blk_cell BK170.out 1).trans rfl; have hcz18_2 : w16.cell? ⟨gb170, 2, none⟩ = some (.int .i64 0) := (blk_cell BK170.out 2).trans rfl; have hcz18_3 : w16.cell? ⟨gb170, 3, none⟩ = some (.bool false) := (blk_cell BK170.out 3).trans rfl; have hfz18_0 := blk_frozen BK170.out 0; have hfz18_1 := blk_frozen BK170.out 1; have hfz18_2 := blk_frozen BK170.out 2; have hfz18_3 := blk_frozen BK170.out 3))
          go_roundg k2
          case measure => have := HJ1.out; have := HK2.out; omega
          case rel => exact ⟨(x4_2), (wrap64 (x5_2 + 1)), q5_7, q5_7, H', ⟨(by have := HJ1.out; have := HK2.out; omega)⟩, ⟨(rdi5_3 NB167_170 BK167)⟩, ⟨(rdi5_5 HB GE167 GE170)⟩⟩
         rw [if_neg c14] at H
         have c14b0 : (((rd_T62 l0_1 x5_2).f2) == 0) = false := beq_eq_false_iff_ne.mpr c14
         have c14b1 : (((rd_T62 l0_1 x5_2).f2) != 0) = true := bne_iff_ne.mpr c14
         obtain rfl := Option.some.inj H
         have hcz19_0 : wr.cell? ⟨gb167, 0, none⟩ = some (.slice A0_0 l0_0.length c0_0) := (blk_cell BK167.out 0).trans rfl
         have hcz19_1 : wr.cell? ⟨gb167, 1, none⟩ = some (.slice A0_1 l0_1.length c0_1) := (blk_cell BK167.out 1).trans rfl
         have hcz19_2 : wr.cell? ⟨gb167, 2, none⟩ = some (.int .i64 a0_2) := (blk_cell BK167.out 2).trans rfl
         have hfz19_0 := blk_frozen BK167.out 0
         have hfz19_1 := blk_frozen BK167.out 1
         have hfz19_2 := blk_frozen BK167.out 2
         have p169 : 0 ≤ (x5_2 : Int) := of_decide_eq_true q5_3
         have q169 : x5_2 < (l0_1.length : Int) := of_decide_eq_true q5_3
         obtain ⟨ad169, e169, hx169_0, hx169_1, hx169_2, hx169_3⟩ := at_T62 HR0_1.out x5_2 p169 q169
         (try rw [← Nbq11.out] at hx169_3)
         (try rw [← Nbq11.out] at hw169_3)
         cases e169
         replace hx169_0 := (HB.out.cell (World.block_lt_of_cell? w _ hx169_0)).trans hx169_0
         replace hx169_1 := (HB.out.cell (World.block_lt_of_cell? w _ hx169_1)).trans hx169_1
         replace hx169_2 := (HB.out.cell (World.block_lt_of_cell? w _ hx169_2)).trans hx169_2
         replace hx169_3 := (HB.out.cell (World.block_lt_of_cell? w _ hx169_3)).trans hx169_3
         replace p169 := eq_true p169
         replace q169 := eq_true q169
         go_wp2_with (first | ((with_reducible refine gate_dst (N := 6) rfl ?_); (try (refine gate_guard (by rfl) ?_; dsimp only)); refine box_event ?hg (N := 6) ?hd (cs := #[.int .u64 0, .int .i64 0, .int .i64 0, .bool false]) (t := 62) ?hr ?_; (case hd => rfl); (case hg => rfl); (case hr => exact (by first | (go_simp; done) | (go_simp; rfl))); intro gb170 hg w20 hbox hb; have n0_ := Aside0.mk (blk_below (q5_2 BK167) hb); have n1_ := Aside0.mk (below_step (q5_1 HB GE167) hb); have n2_ := Aside0.mk (hbox); have n3_ := Aside0.mk ((by rw [hg]; exact (below_size (q5_1 HB GE167)) : w.heap.size ≤ gb170)); have n4_ := Aside0.mk ((by rw [hg]; exact (below_size (q5_1 HB GE167)) : w.heap.size ≤ gb170)); have n5_ := Aside0.mk ((qnl_pdix5 BK167 hg : gb167 ≠ gb170)); have n6_ := Aside0.mk ((qng_pdix5 BK167 hg : gb170 ≠ gb167)); clear BK167 HB; have BK167 := n0_; have HB := n1_; have BK170 := n2_; have GW170 := n3_; have GE170 := n4_; have NB167_170 := n5_; have NB170_167 := n6_; clear n0_ n1_ n2_ n3_ n4_ n5_ n6_; clear hb hbox hg; have hnb21 := NB170_167.out; have hnc21 := NB167_170.out; have hcz22_0 : w20.cell? ⟨gb170, 0, none⟩ = some (.int .u64 0) := (blk_cell BK170.out 0).trans rfl; have hcz22_1 : w20.cell? ⟨gb170, 1, none⟩ = some (.int .i64 0) := (blk_cell BK170.out 1).trans rfl; have hcz22_2 : w20.cell? ⟨gb170, 2, none⟩ = some (.int .i64 0) := (blk_cell BK170.out 2).trans rfl; have hcz22_3 : w20.cell? ⟨gb170, 3, none⟩ = some (.bool false) := (blk_cell BK170.out 3).trans rfl; have hfz22_0 := blk_frozen BK170.out 0; have hfz22_1 := blk_frozen BK170.out 1; have hfz22_2 := blk_frozen BK170.out 2; have hfz22_3 := blk_frozen BK170.out 3))
         go_ret
         exact ⟨rdi5_4, (rdi5_5 HB GE167 GE170)⟩
        rw [if_neg c13] at H
        have c13b0 : (((rd_T62 l0_1 x5_2).f1) == 0) = false := beq_eq_false_iff_ne.mpr c13
        have c13b1 : (((rd_T62 l0_1 x5_2).f1) != 0) = true := bne_iff_ne.mpr c13
        obtain rfl := Option.some.inj H
        have hcz23_0 : wr.cell? ⟨gb167, 0, none⟩ = some (.slice A0_0 l0_0.length c0_0) := (blk_cell BK167.out 0).trans rfl
        have hcz23_1 : wr.cell? ⟨gb167, 1, none⟩ = some (.slice A0_1 l0_1.length c0_1) := (blk_cell BK167.out 1).trans rfl
        have hcz23_2 : wr.cell? ⟨gb167, 2, none⟩ = some (.int .i64 a0_2) := (blk_cell BK167.out 2).trans rfl
        have hfz23_0 := blk_frozen BK167.out 0
        have hfz23_1 := blk_frozen BK167.out 1
        have hfz23_2 := blk_frozen BK167.out 2
        have p169 : 0 ≤ (x5_2 : Int) := of_decide_eq_true q5_3
        have q169 : x5_2 < (l0_1.length : Int) := of_decide_eq_true q5_3
        obtain ⟨ad169, e169, hx169_0, hx169_1, hx169_2, hx169_3⟩ := at_T62 HR0_1.out x5_2 p169 q169
        (try rw [← Nbq11.out] at hx169_3)
        (try rw [← Nbq11.out] at hw169_3)
        cases e169
        replace hx169_0 := (HB.out.cell (World.block_lt_of_cell? w _ hx169_0)).trans hx169_0
        replace hx169_1 := (HB.out.cell (World.block_lt_of_cell? w _ hx169_1)).trans hx169_1
        replace hx169_2 := (HB.out.cell (World.block_lt_of_cell? w _ hx169_2)).trans hx169_2
        replace hx169_3 := (HB.out.cell (World.block_lt_of_cell? w _ hx169_3)).trans hx169_3
        replace p169 := eq_true p169
        replace q169 := eq_true q169
        go_wp2_with (first | ((with_reducible refine gate_dst (N := 6) rfl ?_); (try (refine gate_guard (by rfl) ?_; dsimp only)); refine box_event ?hg (N := 6) ?hd (cs := #[.int .u64 0, .int .i64 0, .int .i64 0, .bool false]) (t := 62) ?hr ?_; (case hd => rfl); (case hg => rfl); (case hr => exact (by first | (go_simp; done) | (go_simp; rfl))); intro gb170 hg w24 hbox hb; have n0_ := Aside0.mk (blk_below (q5_2 BK167) hb); have n1_ := Aside0.mk (below_step (q5_1 HB GE167) hb); have n2_ := Aside0.mk (hbox); have n3_ := Aside0.mk ((by rw [hg]; exact (below_size (q5_1 HB GE167)) : w.heap.size ≤ gb170)); have n4_ := Aside0.mk ((by rw [hg]; exact (below_size (q5_1 HB GE167)) : w.heap.size ≤ gb170)); have n5_ := Aside0.mk ((qnl_pdix5 BK167 hg : gb167 ≠ gb170)); have n6_ := Aside0.mk ((qng_pdix5 BK167 hg : gb170 ≠ gb167)); clear BK167 HB; have BK167 := n0_; have HB := n1_; have BK170 := n2_; have GW170 := n3_; have GE170 := n4_; have NB167_170 := n5_; have NB170_167 := n6_; clear n0_ n1_ n2_ n3_ n4_ n5_ n6_; clear hb hbox hg; have hnb25 := NB170_167.out; have hnc25 := NB167_170.out; have hcz26_0 : w24.cell? ⟨gb170, 0, none⟩ = some (.int .u64 0) := (blk_cell BK170.out 0).trans rfl; have hcz26_1 : w24.cell? ⟨gb170, 1, none⟩ = some (.int .i64 0) := (blk_cell BK170.out 1).trans rfl; have hcz26_2 : w24.cell? ⟨gb170, 2, none⟩ = some (.int .i64 0) := (blk_cell BK170.out 2).trans rfl; have hcz26_3 : w24.cell? ⟨gb170, 3, none⟩ = some (.bool false) := (blk_cell BK170.out 3).trans rfl; have hfz26_0 := blk_frozen BK170.out 0; have hfz26_1 := blk_frozen BK170.out 1; have hfz26_2 := blk_frozen BK170.out 2; have hfz26_3 := blk_frozen BK170.out 3))
        go_ret
        exact ⟨rdi5_4, (rdi5_5 HB GE167 GE170)⟩
       replace c12 := Bool.eq_false_iff.mpr c12
       subst c12
       have H1 : (spec_DictOk.l0 k2 (l0_0.length : Int) (wrap64 (x4_2 + 1)) (wrap64 (x5_2 + 1)) l0_0 l0_1 a0_2) = some r := by rw [if_neg (show ¬ (false = true) by decide)] at H; exact H
       clear H
       have H := H1
       clear H1
       have H' := Aside0.mk H
       clear H
       have hcz27_0 : wr.cell? ⟨gb167, 0, none⟩ = some (.slice A0_0 l0_0.length c0_0) := (blk_cell BK167.out 0).trans rfl
       have hcz27_1 : wr.cell? ⟨gb167, 1, none⟩ = some (.slice A0_1 l0_1.length c0_1) := (blk_cell BK167.out 1).trans rfl
       have hcz27_2 : wr.cell? ⟨gb167, 2, none⟩ = some (.int .i64 a0_2) := (blk_cell BK167.out 2).trans rfl
       have hfz27_0 := blk_frozen BK167.out 0
       have hfz27_1 := blk_frozen BK167.out 1
       have hfz27_2 := blk_frozen BK167.out 2
       have p169 : 0 ≤ (x5_2 : Int) := of_decide_eq_true q5_3
       have q169 : x5_2 < (l0_1.length : Int) := of_decide_eq_true q5_3
       obtain ⟨ad169, e169, hx169_0, hx169_1, hx169_2, hx169_3⟩ := at_T62 HR0_1.out x5_2 p169 q169
       (try rw [← Nbq11.out] at hx169_3)
       (try rw [← Nbq11.out] at hw169_3)
       cases e169
       replace hx169_0 := (HB.out.cell (World.block_lt_of_cell? w _ hx169_0)).trans hx169_0
       replace hx169_1 := (HB.out.cell (World.block_lt_of_cell? w _ hx169_1)).trans hx169_1
       replace hx169_2 := (HB.out.cell (World.block_lt_of_cell? w _ hx169_2)).trans hx169_2
       replace hx169_3 := (HB.out.cell (World.block_lt_of_cell? w _ hx169_3)).trans hx169_3
       replace p169 := eq_true p169
       replace q169 := eq_true q169
       go_wp2_with (first | ((with_reducible refine gate_dst (N := 6) rfl ?_); (try (refine gate_guard (by rfl) ?_; dsimp only)); refine box_event ?hg (N := 6) ?hd (cs := #[.int .u64 0, .int .i64 0, .int .i64 0, .bool false]) (t := 62) ?hr ?_; (case hd => rfl); (case hg => rfl); (case hr => exact (by first | (go_simp; done) | (go_simp; rfl))); intro gb170 hg w28 hbox hb; have n0_ := Aside0.mk (blk_below (q5_2 BK167) hb); have n1_ := Aside0.mk (below_step (q5_1 HB GE167) hb); have n2_ := Aside0.mk (hbox); have n3_ := Aside0.mk ((by rw [hg]; exact (below_size (q5_1 HB GE167)) : w.heap.size ≤ gb170)); have n4_ := Aside0.mk ((by rw [hg]; exact (below_size (q5_1 HB GE167)) : w.heap.size ≤ gb170)); have n5_ := Aside0.mk ((qnl_pdix5 BK167 hg : gb167 ≠ gb170)); have n6_ := Aside0.mk ((qng_pdix5 BK167 hg : gb170 ≠ gb167)); clear BK167 HB; have BK167 := n0_; have HB := n1_; have BK170 := n2_; have GW170 := n3_; have GE170 := n4_; have NB167_170 := n5_; have NB170_167 := n6_; clear n0_ n1_ n2_ n3_ n4_ n5_ n6_; clear hb hbox hg; have hnb29 := NB170_167.out; have hnc29 := NB167_170.out; have hcz30_0 : w28.cell? ⟨gb170, 0, none⟩ = some (.int .u64 0) := (blk_cell BK170.out 0).trans rfl; have hcz30_1 : w28.cell? ⟨gb170, 1, none⟩ = some (.int .i64 0) := (blk_cell BK170.out 1).trans rfl; have hcz30_2 : w28.cell? ⟨gb170, 2, none⟩ = some (.int .i64 0) := (blk_cell BK170.out 2).trans rfl; have hcz30_3 : w28.cell? ⟨gb170, 3, none⟩ = some (.bool false) := (blk_cell BK170.out 3).trans rfl; have hfz30_0 := blk_frozen BK170.out 0; have hfz30_1 := blk_frozen BK170.out 1; have hfz30_2 := blk_frozen BK170.out 2; have hfz30_3 := blk_frozen BK170.out 3))
       go_roundg k2
       case measure => have := HJ1.out; have := HK2.out; omega
       case rel => exact ⟨(wrap64 (x4_2 + 1)), (wrap64 (x5_2 + 1)), q5_7, q5_7, H', ⟨(by have := HJ1.out; have := HK2.out; omega)⟩, ⟨(rdi5_3 NB167_170 BK167)⟩, ⟨(rdi5_5 HB GE167 GE170)⟩⟩
      rw [if_neg c10] at H
      exact absurd H (by simp)
     rw [if_neg c9] at H
     have c9b0 : decide (x5_2 < (l0_1.length : Int)) = false := decide_eq_false c9
     clear c9
     by_cases c31 : x4_2 = a0_2
     ·rw [if_pos c31] at H
      have c31b0 : (x4_2 == a0_2) = true := beq_iff_eq.mpr c31
      have c31b1 : (x4_2 != a0_2) = false := bne_eq_false_iff_eq.mpr c31
      clear c31
      replace H := Option.bind_eq_some_iff.mp H
      obtain ⟨t171, A320, H⟩ := H
      replace H : (spec_DictOk.l1 k2 (l0_0.length : Int) t171 0 l0_0 l0_1 a0_2) = some r := H
      have A32 := Aside0.mk A320
      clear A320
      have H' := Aside0.mk H
      clear H
      have hcz33_0 : wr.cell? ⟨gb167, 0, none⟩ = some (.slice A0_0 l0_0.length c0_0) := (blk_cell BK167.out 0).trans rfl
      have hcz33_1 : wr.cell? ⟨gb167, 1, none⟩ = some (.slice A0_1 l0_1.length c0_1) := (blk_cell BK167.out 1).trans rfl
      have hcz33_2 : wr.cell? ⟨gb167, 2, none⟩ = some (.int .i64 a0_2) := (blk_cell BK167.out 2).trans rfl
      have hfz33_0 := blk_frozen BK167.out 0
      have hfz33_1 := blk_frozen BK167.out 1
      have hfz33_2 := blk_frozen BK167.out 2
      go_wp2_with (first | ((with_reducible refine gate_callee (f := 39) rfl ?_); refine goesL_ (some 58) rfl rfl Try.func39 q5_4 rfl #[.slice A0_1 l0_1.length c0_1, .int .i64 (l0_0.length : Int)] rfl q5_6 ?_; (with_reducible refine (spec_l7Table.calls k2 _ _ l0_1 (l0_0.length : Int) t171 _ ?side1 ?side2 A32.out).mono ?_); (case side1 => exact (q5_5 HR0_1 HB)); (case side2 => exact HC0_1.out); rintro e w34 ⟨v172, rfl, ho0, hb⟩; refine ⟨_, rfl, ?_⟩; have n0_ := Aside0.mk (Kd.R_lower ho0 (below_size (q5_1 HB GE167))); have n1_ := Aside0.mk (blk_below (q5_2 BK167) hb); have n2_ := Aside0.mk (below_step (q5_1 HB GE167) hb); clear BK167 HB; have HO173 := n0_; have BK167 := n1_; have HB := n2_; clear n0_ n1_ n2_; (try clear hb); (try clear hb2); (try clear hk); (try clear hi); (try clear ho0)))
      go_loopg [8] k2 (fun kq v8 w' => ∃ (x8_3 : Int), v8 = .int .i64 x8_3 ∧ Aside0 (spec_DictOk.l1 kq (l0_0.length : Int) t171 x8_3 l0_0 l0_1 a0_2 = some r) ∧ Aside0 (kq ≤ k2) ∧ Aside0 (Kd.R (Kd.int .i64) 2 w' w.heap.size (fun _ => True) v172 t171) ∧ Aside0 (w'.heap[gb167]? = some (.cells #[(.slice A0_0 l0_0.length c0_0), (.slice A0_1 l0_1.length c0_1), .int .i64 a0_2] 25 (0, 0))) ∧ Aside0 (Below w.heap.size w w'))
      case atStart => exact ⟨(0), q5_7, H', ⟨Nat.le_refl _⟩, ⟨(by (with_reducible repeat (first | apply Kd.R_alloc | apply Kd.R_drewN | apply Kd.R_drew)); exact HO173.out)⟩, ⟨(rdi5_2 BK167)⟩, ⟨(rdi5_1 HB GE167)⟩⟩
      case round =>
       clear H'
       obtain ⟨x8_3, rfl, HA, HK3, HO_7, BK167, HB⟩ := hrel
       cases gk with
       | zero => exact absurd HA.out (by simp [spec_DictOk.l1])
       | succ k3 =>
        have H := HA.out
        clear HA
        simp only [spec_DictOk.l1] at H
        by_cases c35 : x8_3 < (l0_0.length : Int)
        ·rw [if_pos c35] at H
         have c35b0 : decide (x8_3 < (l0_0.length : Int)) = true := decide_eq_true c35
         clear c35
         by_cases c36 : 0 ≤ x8_3
         ·rw [if_pos c36] at H
          have c36b0 : decide (0 ≤ x8_3) = true := decide_eq_true c36
          clear c36
          by_cases c37 : x8_3 < (t171.length : Int)
          ·rw [if_pos c37] at H
           have c37b0 : decide (x8_3 < (t171.length : Int)) = true := decide_eq_true c37
           clear c37
           by_cases c38 : x8_3 < (l0_0.length : Int)
           ·rw [if_pos c38] at H
            have c38b0 : decide (x8_3 < (l0_0.length : Int)) = true := decide_eq_true c38
            clear c38
            by_cases c39 : (rd t171 x8_3) = (rd l0_0 x8_3)
            ·rw [if_pos c39] at H
             have c39b0 : ((rd t171 x8_3) == (rd l0_0 x8_3)) = true := beq_iff_eq.mpr c39
             have c39b1 : ((rd t171 x8_3) != (rd l0_0 x8_3)) = false := bne_eq_false_iff_eq.mpr c39
             clear c39
             have H' := Aside0.mk H
             clear H
             try go_wp2
             have n0_ := Aside0.mk (Kd.R_drew HO_7.out)
             have n1_ := Aside0.mk (blk_drew BK167.out)
             have n2_ := Aside0.mk (below_drew1 HB.out)
             clear HO_7 BK167 HB
             have HO_7 := n0_
             have BK167 := n1_
             have HB := n2_
             clear n0_ n1_ n2_
             obtain ⟨Ao41, co41, eo41⟩ := Kd.R_slice HO_7.out
             (first | subst eo41 | (injection eo41 with f1_ f2_ f3_; have f4_ := f1_.symm; have f5_ := f3_.symm; clear f1_ f2_ f3_; subst f4_; subst f5_))
             have p174 : 0 ≤ (x8_3 : Int) := of_decide_eq_true q5_3
             have q174 : x8_3 < (t171.length : Int) := of_decide_eq_true q5_3
             obtain ⟨ad174, e174, hx174_0⟩ := Kd.at_int (Kd.R_reads' HO_7.out).2.2 x8_3 p174 q174
             cases e174
             replace p174 := eq_true p174
             replace q174 := eq_true q174
             have p175 : 0 ≤ (x8_3 : Int) := of_decide_eq_true q5_3
             have q175 : x8_3 < (l0_0.length : Int) := of_decide_eq_true q5_3
             obtain ⟨ad175, e175, hx175_0⟩ := Kd.at_int HR0_0.out x8_3 p175 q175
             have hw175_0 := hx175_0
             cases e175
             replace hx175_0 := (HB.out.cell (World.block_lt_of_cell? w _ hx175_0)).trans hx175_0
             replace p175 := eq_true p175
             replace q175 := eq_true q175
             refine start_ (n := 10) (S := fun w' => w'.cell? ⟨gb167, 0, none⟩ = some (.slice (some ad175) l0_0.length c0_0) ∧ w'.cell? ⟨gb167, 1, none⟩ = some (.slice A0_1 l0_1.length c0_1) ∧ w'.cell? ⟨gb167, 2, none⟩ = some (.int .i64 a0_2) ∧ w'.cell? (ad174.add (x8_3).toNat) = some (.int .i64 (rd t171 x8_3)) ∧ w'.cell? (ad175.add (x8_3).toNat) = some (.int .i64 (rd l0_0 x8_3))) (ds := []) (bs_ 10 0) q5_4 rfl rfl ⟨(blk_cell BK167.out 0).trans rfl, (blk_cell BK167.out 1).trans rfl, (blk_cell BK167.out 2).trans rfl, hx174_0, ((HB.out.cell (World.block_lt_of_cell? w _ hw175_0)).trans hw175_0)⟩ (fun hHeld => ?_); refine with_tabW spec_DictOk.tab19 spec_DictOk.bits19 (fun HT_ HW_ => ?_)
             generalize wr.drew = w40 at HO_7 BK167 HB hx174_0 hx175_0 hHeld ⊢
             refine pure_ (i := 0) (N := some 64) (bs_ 10 1) rfl rfl (any_of HT_.out q5_4) (fun _ _ _ h => h) (Or.inl ⟨by rfl, qpy_pdix5⟩) qpa_pdix5 ?_
             refine pure_ (i := 1) (N := some 65) (bs_ 10 3) rfl rfl (any_of HT_.out q5_4) (fun _ _ _ h => h) (Or.inl ⟨by rfl, qpy_pdix5⟩) qpa_pdix5 ?_
             refine pure_ (i := 2) (N := some 66) (bs_ 10 7) rfl rfl (any_of HT_.out q5_4) (fun _ _ _ h => h) (Or.inl ⟨by rfl, qpy_pdix5⟩) qpa_pdix5 ?_
             refine pure_ (i := 4) (N := some 68) (bs_ 10 23) rfl rfl (any_of HT_.out q5_4) (fun _ _ _ h => h) (Or.inl ⟨by rfl, qpy_pdix5⟩) qpa_pdix5 ?_
             refine pure_ (i := 6) (N := some 70) (bs_ 10 87) rfl rfl (any_of HT_.out q5_4) (fun _ _ _ h => h) (Or.inl ⟨by rfl, qpy_pdix5⟩) qpa_pdix5 ?_
             refine take_ (i := 3) (N := some 67) (bs_ 10 95) rfl rfl (take_ofW HT_.out HW_.out q5_4) (fun _ _ _ h => h) (Or.inl ⟨by rfl, qpt5_pdix5⟩) hHeld qpa_pdix5 ?_
             refine take_ (i := 5) (N := some 69) (bs_ 10 127) rfl rfl (take_ofW HT_.out HW_.out q5_4) (fun _ _ _ h => h) (Or.inl ⟨by rfl, qpt5_pdix5⟩) hHeld qpa_pdix5 ?_
             refine pure_ (i := 7) (N := some 71) (bs_ 10 255) rfl rfl (any_of HT_.out q5_4) (fun _ _ _ h => h) (Or.inl ⟨by rfl, qpy_pdix5⟩) qpa_pdix5 ?_
             refine take_ (i := 8) (N := some 72) (bs_ 10 511) rfl rfl (take_ofW HT_.out HW_.out q5_4) (fun _ _ _ h => h) (Or.inl ⟨by rfl, qpt5_pdix5⟩) hHeld qpa_pdix5 ?_
             refine pure_ (i := 9) (N := some 73) (bs_ 10 1023) rfl rfl (any_of HT_.out q5_4) (fun _ _ _ h => h) (Or.inl ⟨by rfl, qpy_pdix5⟩) qpa_pdix5 ?_
             refine done_ (done_of HT_.out q5_4) ?_
             try go_wp2
             go_roundg k3
             case measure => have := HJ1.out; have := HK2.out; have := HK3.out; omega
             case rel => exact ⟨(wrap64 (x8_3 + 1)), q5_7, H', ⟨(by have := HJ1.out; have := HK2.out; have := HK3.out; omega)⟩, ⟨(by (with_reducible repeat (first | apply Kd.R_alloc | apply Kd.R_drewN | apply Kd.R_drew)); exact HO_7.out)⟩, ⟨(rdi5_2 BK167)⟩, ⟨(rdi5_1 HB GE167)⟩⟩
            rw [if_neg c39] at H
            have c39b0 : ((rd t171 x8_3) == (rd l0_0 x8_3)) = false := beq_eq_false_iff_ne.mpr c39
            have c39b1 : ((rd t171 x8_3) != (rd l0_0 x8_3)) = true := bne_iff_ne.mpr c39
            obtain rfl := Option.some.inj H
            try go_wp2
            have n0_ := Aside0.mk (Kd.R_drew HO_7.out)
            have n1_ := Aside0.mk (blk_drew BK167.out)
            have n2_ := Aside0.mk (below_drew1 HB.out)
            clear HO_7 BK167 HB
            have HO_7 := n0_
            have BK167 := n1_
            have HB := n2_
            clear n0_ n1_ n2_
            obtain ⟨Ao43, co43, eo43⟩ := Kd.R_slice HO_7.out
            (first | subst eo43 | (injection eo43 with f1_ f2_ f3_; have f4_ := f1_.symm; have f5_ := f3_.symm; clear f1_ f2_ f3_; subst f4_; subst f5_))
            have p174 : 0 ≤ (x8_3 : Int) := of_decide_eq_true q5_3
            have q174 : x8_3 < (t171.length : Int) := of_decide_eq_true q5_3
            obtain ⟨ad174, e174, hx174_0⟩ := Kd.at_int (Kd.R_reads' HO_7.out).2.2 x8_3 p174 q174
            cases e174
            replace p174 := eq_true p174
            replace q174 := eq_true q174
            have p175 : 0 ≤ (x8_3 : Int) := of_decide_eq_true q5_3
            have q175 : x8_3 < (l0_0.length : Int) := of_decide_eq_true q5_3
            obtain ⟨ad175, e175, hx175_0⟩ := Kd.at_int HR0_0.out x8_3 p175 q175
            have hw175_0 := hx175_0
            cases e175
            replace hx175_0 := (HB.out.cell (World.block_lt_of_cell? w _ hx175_0)).trans hx175_0
            replace p175 := eq_true p175
            replace q175 := eq_true q175
            refine start_ (n := 10) (S := fun w' => w'.cell? ⟨gb167, 0, none⟩ = some (.slice (some ad175) l0_0.length c0_0) ∧ w'.cell? ⟨gb167, 1, none⟩ = some (.slice A0_1 l0_1.length c0_1) ∧ w'.cell? ⟨gb167, 2, none⟩ = some (.int .i64 a0_2) ∧ w'.cell? (ad174.add (x8_3).toNat) = some (.int .i64 (rd t171 x8_3)) ∧ w'.cell? (ad175.add (x8_3).toNat) = some (.int .i64 (rd l0_0 x8_3))) (ds := []) (bs_ 10 0) q5_4 rfl rfl ⟨(blk_cell BK167.out 0).trans rfl, (blk_cell BK167.out 1).trans rfl, (blk_cell BK167.out 2).trans rfl, hx174_0, ((HB.out.cell (World.block_lt_of_cell? w _ hw175_0)).trans hw175_0)⟩ (fun hHeld => ?_); refine with_tabW spec_DictOk.tab19 spec_DictOk.bits19 (fun HT_ HW_ => ?_)
            generalize wr.drew = w42 at HO_7 BK167 HB hx174_0 hx175_0 hHeld ⊢
            refine pure_ (i := 0) (N := some 64) (bs_ 10 1) rfl rfl (any_of HT_.out q5_4) (fun _ _ _ h => h) (Or.inl ⟨by rfl, qpy_pdix5⟩) qpa_pdix5 ?_
            refine pure_ (i := 1) (N := some 65) (bs_ 10 3) rfl rfl (any_of HT_.out q5_4) (fun _ _ _ h => h) (Or.inl ⟨by rfl, qpy_pdix5⟩) qpa_pdix5 ?_
            refine pure_ (i := 2) (N := some 66) (bs_ 10 7) rfl rfl (any_of HT_.out q5_4) (fun _ _ _ h => h) (Or.inl ⟨by rfl, qpy_pdix5⟩) qpa_pdix5 ?_
            refine pure_ (i := 4) (N := some 68) (bs_ 10 23) rfl rfl (any_of HT_.out q5_4) (fun _ _ _ h => h) (Or.inl ⟨by rfl, qpy_pdix5⟩) qpa_pdix5 ?_
            refine pure_ (i := 6) (N := some 70) (bs_ 10 87) rfl rfl (any_of HT_.out q5_4) (fun _ _ _ h => h) (Or.inl ⟨by rfl, qpy_pdix5⟩) qpa_pdix5 ?_
            refine take_ (i := 3) (N := some 67) (bs_ 10 95) rfl rfl (take_ofW HT_.out HW_.out q5_4) (fun _ _ _ h => h) (Or.inl ⟨by rfl, qpt5_pdix5⟩) hHeld qpa_pdix5 ?_
            refine take_ (i := 5) (N := some 69) (bs_ 10 127) rfl rfl (take_ofW HT_.out HW_.out q5_4) (fun _ _ _ h => h) (Or.inl ⟨by rfl, qpt5_pdix5⟩) hHeld qpa_pdix5 ?_
            refine pure_ (i := 7) (N := some 71) (bs_ 10 255) rfl rfl (any_of HT_.out q5_4) (fun _ _ _ h => h) (Or.inl ⟨by rfl, qpy_pdix5⟩) qpa_pdix5 ?_
            refine take_ (i := 8) (N := some 72) (bs_ 10 511) rfl rfl (take_ofW HT_.out HW_.out q5_4) (fun _ _ _ h => h) (Or.inl ⟨by rfl, qpt5_pdix5⟩) hHeld qpa_pdix5 ?_
            refine pure_ (i := 9) (N := some 73) (bs_ 10 1023) rfl rfl (any_of HT_.out q5_4) (fun _ _ _ h => h) (Or.inl ⟨by rfl, qpy_pdix5⟩) qpa_pdix5 ?_
            refine done_ (done_of HT_.out q5_4) ?_
            try go_wp2
            go_ret
            exact ⟨rdi5_4, (rdi5_1 HB GE167)⟩
           rw [if_neg c38] at H
           exact absurd H (by simp)
          rw [if_neg c37] at H
          exact absurd H (by simp)
         rw [if_neg c36] at H
         exact absurd H (by simp)
        rw [if_neg c35] at H
        have c35b0 : decide (x8_3 < (l0_0.length : Int)) = false := decide_eq_false c35
        clear c35
        have H' := Aside0.mk H
        clear H
        go_wp2
        go_loopg [9] k3 (fun kq v9 w' => ∃ (x9_4 : Int), v9 = .int .i64 x9_4 ∧ Aside0 (spec_DictOk.l2 kq x9_4 l0_0 l0_1 a0_2 = some r) ∧ Aside0 (kq ≤ k3) ∧ Aside0 (w'.heap[gb167]? = some (.cells #[(.slice A0_0 l0_0.length c0_0), (.slice A0_1 l0_1.length c0_1), .int .i64 a0_2] 25 (0, 0))) ∧ Aside0 (Below w.heap.size w w'))
        case atStart => exact ⟨(0), q5_7, H', ⟨Nat.le_refl _⟩, ⟨(rdi5_2 BK167)⟩, ⟨(rdi5_1 HB GE167)⟩⟩
        case round =>
         clear H'
         obtain ⟨x9_4, rfl, HA, HK4, BK167, HB⟩ := hrel
         cases gk with
         | zero => exact absurd HA.out (by simp [spec_DictOk.l2])
         | succ k4 =>
          have H := HA.out
          clear HA
          simp only [spec_DictOk.l2] at H
          by_cases c44 : x9_4 < (l0_1.length : Int)
          ·rw [if_pos c44] at H
           have c44b0 : decide (x9_4 < (l0_1.length : Int)) = true := decide_eq_true c44
           clear c44
           by_cases c45 : 0 ≤ x9_4
           ·rw [if_pos c45] at H
            have c45b0 : decide (0 ≤ x9_4) = true := decide_eq_true c45
            clear c45
            obtain ⟨bq46, hbq46⟩ : ∃ b_ : Bool, b_ = ((rd_T62 l0_1 x9_4).f3) := ⟨_, rfl⟩
            replace H : (if (bq46 = true) then (spec_DictOk.l2 k4 (wrap64 (x9_4 + 1)) l0_0 l0_1 a0_2) else ((spec_l7Find.f k4 l0_0 l0_1 a0_2 ((rd_T62 l0_1 x9_4).f0) ((rd_T62 l0_1 x9_4).f1)).bind fun bt179 => (if bt179.1 = x9_4 then (spec_DictOk.l2 k4 (wrap64 (x9_4 + 1)) l0_0 l0_1 a0_2) else (some false)))) = some r := by rw [← hbq46] at H; exact H
            have Nbq46 := Aside0.mk hbq46
            clear hbq46
            by_cases c47 : (bq46 = true)
            ·subst c47
             have H1 : (spec_DictOk.l2 k4 (wrap64 (x9_4 + 1)) l0_0 l0_1 a0_2) = some r := by rw [if_pos rfl] at H; exact H
             clear H
             have H := H1
             clear H1
             have H' := Aside0.mk H
             clear H
             have hcz48_0 : wr.cell? ⟨gb167, 0, none⟩ = some (.slice A0_0 l0_0.length c0_0) := (blk_cell BK167.out 0).trans rfl
             have hcz48_1 : wr.cell? ⟨gb167, 1, none⟩ = some (.slice A0_1 l0_1.length c0_1) := (blk_cell BK167.out 1).trans rfl
             have hcz48_2 : wr.cell? ⟨gb167, 2, none⟩ = some (.int .i64 a0_2) := (blk_cell BK167.out 2).trans rfl
             have hfz48_0 := blk_frozen BK167.out 0
             have hfz48_1 := blk_frozen BK167.out 1
             have hfz48_2 := blk_frozen BK167.out 2
             have p176 : 0 ≤ (x9_4 : Int) := of_decide_eq_true q5_3
             have q176 : x9_4 < (l0_1.length : Int) := of_decide_eq_true q5_3
             obtain ⟨ad176, e176, hx176_0, hx176_1, hx176_2, hx176_3⟩ := at_T62 HR0_1.out x9_4 p176 q176
             (try rw [← Nbq46.out] at hx176_3)
             (try rw [← Nbq46.out] at hw176_3)
             cases e176
             replace hx176_0 := (HB.out.cell (World.block_lt_of_cell? w _ hx176_0)).trans hx176_0
             replace hx176_1 := (HB.out.cell (World.block_lt_of_cell? w _ hx176_1)).trans hx176_1
             replace hx176_2 := (HB.out.cell (World.block_lt_of_cell? w _ hx176_2)).trans hx176_2
             replace hx176_3 := (HB.out.cell (World.block_lt_of_cell? w _ hx176_3)).trans hx176_3
             replace p176 := eq_true p176
             replace q176 := eq_true q176
             go_wp2
             go_roundg k4
             case measure => have := HJ1.out; have := HK2.out; have := HK3.out; have := HK4.out; omega
             case rel => exact ⟨(wrap64 (x9_4 + 1)), q5_7, H', ⟨(by have := HJ1.out; have := HK2.out; have := HK3.out; have := HK4.out; omega)⟩, ⟨(rdi5_2 BK167)⟩, ⟨(rdi5_1 HB GE167)⟩⟩
            replace c47 := Bool.eq_false_iff.mpr c47
            subst c47
            have H1 : ((spec_l7Find.f k4 l0_0 l0_1 a0_2 ((rd_T62 l0_1 x9_4).f0) ((rd_T62 l0_1 x9_4).f1)).bind fun bt179 => (if bt179.1 = x9_4 then (spec_DictOk.l2 k4 (wrap64 (x9_4 + 1)) l0_0 l0_1 a0_2) else (some false))) = some r := by rw [if_neg (show ¬ (false = true) by decide)] at H; exact H
            clear H
            have H := H1
            clear H1
            replace H := Option.bind_eq_some_iff.mp H
            obtain ⟨⟨t179, t180⟩, A490, H⟩ := H
            replace H : (if t179 = x9_4 then (spec_DictOk.l2 k4 (wrap64 (x9_4 + 1)) l0_0 l0_1 a0_2) else (some false)) = some r := H
            have A49 := Aside0.mk A490
            clear A490
            by_cases c50 : t179 = x9_4
            ·rw [if_pos c50] at H
             have c50b0 : (t179 == x9_4) = true := beq_iff_eq.mpr c50
             have c50b1 : (t179 != x9_4) = false := bne_eq_false_iff_eq.mpr c50
             clear c50
             have H' := Aside0.mk H
             clear H
             have hcz51_0 : wr.cell? ⟨gb167, 0, none⟩ = some (.slice A0_0 l0_0.length c0_0) := (blk_cell BK167.out 0).trans rfl
             have hcz51_1 : wr.cell? ⟨gb167, 1, none⟩ = some (.slice A0_1 l0_1.length c0_1) := (blk_cell BK167.out 1).trans rfl
             have hcz51_2 : wr.cell? ⟨gb167, 2, none⟩ = some (.int .i64 a0_2) := (blk_cell BK167.out 2).trans rfl
             have hfz51_0 := blk_frozen BK167.out 0
             have hfz51_1 := blk_frozen BK167.out 1
             have hfz51_2 := blk_frozen BK167.out 2
             have p176 : 0 ≤ (x9_4 : Int) := of_decide_eq_true q5_3
             have q176 : x9_4 < (l0_1.length : Int) := of_decide_eq_true q5_3
             obtain ⟨ad176, e176, hx176_0, hx176_1, hx176_2, hx176_3⟩ := at_T62 HR0_1.out x9_4 p176 q176
             (try rw [← Nbq46.out] at hx176_3)
             (try rw [← Nbq46.out] at hw176_3)
             cases e176
             replace hx176_0 := (HB.out.cell (World.block_lt_of_cell? w _ hx176_0)).trans hx176_0
             replace hx176_1 := (HB.out.cell (World.block_lt_of_cell? w _ hx176_1)).trans hx176_1
             replace hx176_2 := (HB.out.cell (World.block_lt_of_cell? w _ hx176_2)).trans hx176_2
             replace hx176_3 := (HB.out.cell (World.block_lt_of_cell? w _ hx176_3)).trans hx176_3
             replace p176 := eq_true p176
             replace q176 := eq_true q176
             try go_wp2
             have n0_ := Aside0.mk (blk_drew BK167.out)
             have n1_ := Aside0.mk (below_drew1 HB.out)
             clear BK167 HB
             have BK167 := n0_
             have HB := n1_
             clear n0_ n1_
             have p177 : 0 ≤ (x9_4 : Int) := of_decide_eq_true q5_3
             have q177 : x9_4 < (l0_1.length : Int) := of_decide_eq_true q5_3
             obtain ⟨ad177, e177, hx177_0, hx177_1, hx177_2, hx177_3⟩ := at_T62 HR0_1.out x9_4 p177 q177
             have hw177_3 := hx177_3
             have hw177_2 := hx177_2
             have hw177_1 := hx177_1
             have hw177_0 := hx177_0
             (try rw [← Nbq46.out] at hx177_3)
             (try rw [← Nbq46.out] at hw177_3)
             obtain rfl : ad176 = ad177 := (by injection e177)
             replace hx177_0 := (HB.out.cell (World.block_lt_of_cell? w _ hx177_0)).trans hx177_0
             replace hx177_1 := (HB.out.cell (World.block_lt_of_cell? w _ hx177_1)).trans hx177_1
             replace hx177_2 := (HB.out.cell (World.block_lt_of_cell? w _ hx177_2)).trans hx177_2
             replace hx177_3 := (HB.out.cell (World.block_lt_of_cell? w _ hx177_3)).trans hx177_3
             replace p177 := eq_true p177
             replace q177 := eq_true q177
             have p178 : 0 ≤ (x9_4 : Int) := of_decide_eq_true q5_3
             have q178 : x9_4 < (l0_1.length : Int) := of_decide_eq_true q5_3
             obtain ⟨ad178, e178, hx178_0, hx178_1, hx178_2, hx178_3⟩ := at_T62 HR0_1.out x9_4 p178 q178
             have hw178_3 := hx178_3
             have hw178_2 := hx178_2
             have hw178_1 := hx178_1
             have hw178_0 := hx178_0
             (try rw [← Nbq46.out] at hx178_3)
             (try rw [← Nbq46.out] at hw178_3)
             obtain rfl : ad176 = ad178 := (by injection e178)
             replace hx178_0 := (HB.out.cell (World.block_lt_of_cell? w _ hx178_0)).trans hx178_0
             replace hx178_1 := (HB.out.cell (World.block_lt_of_cell? w _ hx178_1)).trans hx178_1
             replace hx178_2 := (HB.out.cell (World.block_lt_of_cell? w _ hx178_2)).trans hx178_2
             replace hx178_3 := (HB.out.cell (World.block_lt_of_cell? w _ hx178_3)).trans hx178_3
             replace p178 := eq_true p178
             replace q178 := eq_true q178
             refine start_ (n := 19) (S := fun w' => w'.cell? ⟨gb167, 0, none⟩ = some (.slice A0_0 l0_0.length c0_0) ∧ w'.cell? ⟨gb167, 1, none⟩ = some (.slice (some ad176) l0_1.length c0_1) ∧ w'.cell? ⟨gb167, 2, none⟩ = some (.int .i64 a0_2) ∧ w'.cell? (ad176.add ((x9_4).toNat * 4)) = some (.int .u64 ((rd_T62 l0_1 x9_4).f0)) ∧ w'.cell? ⟨(ad176.add ((x9_4).toNat * 4)).block, (ad176.add ((x9_4).toNat * 4)).off + 1, none⟩ = some (.int .i64 ((rd_T62 l0_1 x9_4).f1)) ∧ w'.cell? ⟨(ad176.add ((x9_4).toNat * 4)).block, (ad176.add ((x9_4).toNat * 4)).off + 2, none⟩ = some (.int .i64 ((rd_T62 l0_1 x9_4).f2)) ∧ w'.cell? ⟨(ad176.add ((x9_4).toNat * 4)).block, (ad176.add ((x9_4).toNat * 4)).off + 3, none⟩ = some (.bool (false)) ∧ w'.cell? (ad176.add ((x9_4).toNat * 4)) = some (.int .u64 ((rd_T62 l0_1 x9_4).f0)) ∧ w'.cell? ⟨(ad176.add ((x9_4).toNat * 4)).block, (ad176.add ((x9_4).toNat * 4)).off + 1, none⟩ = some (.int .i64 ((rd_T62 l0_1 x9_4).f1)) ∧ w'.cell? ⟨(ad176.add ((x9_4).toNat * 4)).block, (ad176.add ((x9_4).toNat * 4)).off + 2, none⟩ = some (.int .i64 ((rd_T62 l0_1 x9_4).f2)) ∧ w'.cell? ⟨(ad176.add ((x9_4).toNat * 4)).block, (ad176.add ((x9_4).toNat * 4)).off + 3, none⟩ = some (.bool (false))) (ds := []) (bs_ 19 0) q5_4 rfl rfl ⟨(blk_cell BK167.out 0).trans rfl, (blk_cell BK167.out 1).trans rfl, (blk_cell BK167.out 2).trans rfl, ((HB.out.cell (World.block_lt_of_cell? w _ hw177_0)).trans hw177_0), ((HB.out.cell (World.block_lt_of_cell? w _ hw177_1)).trans hw177_1), ((HB.out.cell (World.block_lt_of_cell? w _ hw177_2)).trans hw177_2), ((HB.out.cell (World.block_lt_of_cell? w _ hw177_3)).trans hw177_3), ((HB.out.cell (World.block_lt_of_cell? w _ hw178_0)).trans hw178_0), ((HB.out.cell (World.block_lt_of_cell? w _ hw178_1)).trans hw178_1), ((HB.out.cell (World.block_lt_of_cell? w _ hw178_2)).trans hw178_2), ((HB.out.cell (World.block_lt_of_cell? w _ hw178_3)).trans hw178_3)⟩ (fun hHeld => ?_); refine with_tabW spec_DictOk.tab25 spec_DictOk.bits25 (fun HT_ HW_ => ?_)
             generalize wr.drew = w52 at BK167 HB hx177_0 hx177_1 hx177_2 hx177_3 hx178_0 hx178_1 hx178_2 hx178_3 hHeld ⊢
             refine pure_ (i := 1) (N := some 90) (bs_ 19 2) rfl rfl (any_of HT_.out q5_4) (fun _ _ _ h => h) (Or.inl ⟨by rfl, qpy_pdix5⟩) qpa_pdix5 ?_
             refine pure_ (i := 3) (N := some 92) (bs_ 19 10) rfl rfl (any_of HT_.out q5_4) (fun _ _ _ h => h) (Or.inl ⟨by rfl, qpy_pdix5⟩) qpa_pdix5 ?_
             refine pure_ (i := 7) (N := some 96) (bs_ 19 138) rfl rfl (any_of HT_.out q5_4) (fun _ _ _ h => h) (Or.inl ⟨by rfl, qpy_pdix5⟩) qpa_pdix5 ?_
             refine pure_ (i := 9) (N := some 98) (bs_ 19 650) rfl rfl (any_of HT_.out q5_4) (fun _ _ _ h => h) (Or.inl ⟨by rfl, qpy_pdix5⟩) qpa_pdix5 ?_
             refine take_ (i := 0) (N := some 89) (bs_ 19 651) rfl rfl (take_ofW HT_.out HW_.out q5_4) (fun _ _ _ h => h) (Or.inl ⟨by rfl, qpt11_pdix5⟩) hHeld qpa_pdix5 ?_
             refine take_ (i := 2) (N := some 91) (bs_ 19 655) rfl rfl (take_ofW HT_.out HW_.out q5_4) (fun _ _ _ h => h) (Or.inl ⟨by rfl, qpt11_pdix5⟩) hHeld qpa_pdix5 ?_
             refine pure_ (i := 4) (N := some 93) (bs_ 19 671) rfl rfl (any_of HT_.out q5_4) (fun _ _ _ h => h) (Or.inl ⟨by rfl, qpy_pdix5⟩) qpa_pdix5 ?_
             refine pure_ (i := 5) (N := some 94) (bs_ 19 703) rfl rfl (any_of HT_.out q5_4) (fun _ _ _ h => h) (Or.inl ⟨by rfl, qpy_pdix5⟩) qpa_pdix5 ?_
             refine take_ (i := 6) (N := some 95) (bs_ 19 767) rfl rfl (take_ofW HT_.out HW_.out q5_4) (fun _ _ _ h => h) (Or.inl ⟨by rfl, qpt11_pdix5⟩) hHeld qpa_pdix5 ?_
             refine take_ (i := 8) (N := some 97) (bs_ 19 1023) rfl rfl (take_ofW HT_.out HW_.out q5_4) (fun _ _ _ h => h) (Or.inl ⟨by rfl, qpt11_pdix5⟩) hHeld qpa_pdix5 ?_
             refine pure_ (i := 10) (N := some 99) (bs_ 19 2047) rfl rfl (any_of HT_.out q5_4) (fun _ _ _ h => h) (Or.inl ⟨by rfl, qpy_pdix5⟩) qpa_pdix5 ?_
             refine pure_ (i := 11) (N := some 100) (bs_ 19 4095) rfl rfl (any_of HT_.out q5_4) (fun _ _ _ h => h) (Or.inl ⟨by rfl, qpy_pdix5⟩) qpa_pdix5 ?_
             refine take_ (i := 12) (N := some 101) (bs_ 19 8191) rfl rfl (take_ofW HT_.out HW_.out q5_4) (fun _ _ _ h => h) (Or.inl ⟨by rfl, qpt11_pdix5⟩) hHeld qpa_pdix5 ?_
             refine one_ (i := 13) (N := some 102) (bs_ 19 16383) rfl rfl (one_of HT_.out q5_4) (by decide) (fun K hK => ?_)
             refine goes_ Try.func55 q5_4 rfl #[.agg #[.slice A0_0 l0_0.length c0_0, .slice (some ad176) l0_1.length c0_1, .int .i64 a0_2], .int .u64 ((rd_T62 l0_1 x9_4).f0), .int .i64 ((rd_T62 l0_1 x9_4).f1)] (by rfl) rfl rfl q5_6 ?_
             with_reducible refine (spec_l7Find.calls k4 _ _ l0_0 _ _ l0_1 a0_2 ((rd_T62 l0_1 x9_4).f0) ((rd_T62 l0_1 x9_4).f1) t179 t180 _ ?side1 ?side2 ?side3 ?side4 A49.out).mono ?_
             (case side1 => exact (q5_5 HR0_0 HB))
             (case side2 => exact HC0_0.out)
             (case side3 => exact (q5_5 HR0_1 HB))
             (case side4 => exact HC0_1.out)
             rintro e w53 ⟨rfl, hb⟩
             refine ⟨_, rfl, ?_⟩
             have n0_ := Aside0.mk (blk_below (q5_2 BK167) hb)
             have n1_ := Aside0.mk (below_step (q5_1 HB GE167) hb)
             clear BK167 HB
             have BK167 := n0_
             have HB := n1_
             clear n0_ n1_
             (try clear hb)
             (try clear hb2)
             (try clear hk)
             (try clear hi)
             refine hK.out _ _ ⟨(blk_cell BK167.out 0).trans rfl, (blk_cell BK167.out 1).trans rfl, (blk_cell BK167.out 2).trans rfl, ((HB.out.cell (World.block_lt_of_cell? w _ hw177_0)).trans hw177_0), ((HB.out.cell (World.block_lt_of_cell? w _ hw177_1)).trans hw177_1), ((HB.out.cell (World.block_lt_of_cell? w _ hw177_2)).trans hw177_2), ((HB.out.cell (World.block_lt_of_cell? w _ hw177_3)).trans hw177_3), ((HB.out.cell (World.block_lt_of_cell? w _ hw178_0)).trans hw178_0), ((HB.out.cell (World.block_lt_of_cell? w _ hw178_1)).trans hw178_1), ((HB.out.cell (World.block_lt_of_cell? w _ hw178_2)).trans hw178_2), ((HB.out.cell (World.block_lt_of_cell? w _ hw178_3)).trans hw178_3)⟩ (fun hHeld => ?_)
             clear hK K
             refine norm_ (a' := ?_) ?_ ?_
             rotate_left
             ·show Act.put _ (some 102) _ = _
              simp only [Act.put, List.setIfInBounds_toArray, List.set_cons_zero, List.set_cons_succ, i64_w, i32_w]
              rfl
             refine pure_ (i := 14) (N := some 88) (bs_ 19 32767) rfl rfl (any_of HT_.out q5_4) (fun _ _ _ h => h) (Or.inl ⟨by rfl, qpy_pdix5⟩) qpa_pdix5 ?_
             refine pure_ (i := 15) (N := some 103) (bs_ 19 65535) rfl rfl (any_of HT_.out q5_4) (fun _ _ _ h => h) (Or.inl ⟨by rfl, qpy_pdix5⟩) qpa_pdix5 ?_
             refine pure_ (i := 16) (N := some 104) (bs_ 19 131071) rfl rfl (any_of HT_.out q5_4) (fun _ _ _ h => h) (Or.inl ⟨by rfl, qpy_pdix5⟩) qpa_pdix5 ?_
             refine pure_ (i := 17) (N := some 10) (bs_ 19 262143) rfl rfl (any_of HT_.out q5_4) (fun _ _ _ h => h) (Or.inl ⟨by rfl, qpy_pdix5⟩) qpa_pdix5 ?_
             refine pure_ (i := 18) (N := some 11) (bs_ 19 524287) rfl rfl (any_of HT_.out q5_4) (fun _ _ _ h => h) (Or.inl ⟨by rfl, qpy_pdix5⟩) qpa_pdix5 ?_
             refine done_ (done_of HT_.out q5_4) ?_
             try go_wp2
             go_roundg k4
             case measure => have := HJ1.out; have := HK2.out; have := HK3.out; have := HK4.out; omega
             case rel => exact ⟨(wrap64 (x9_4 + 1)), q5_7, H', ⟨(by have := HJ1.out; have := HK2.out; have := HK3.out; have := HK4.out; omega)⟩, ⟨(rdi5_2 BK167)⟩, ⟨(rdi5_1 HB GE167)⟩⟩
            rw [if_neg c50] at H
            have c50b0 : (t179 == x9_4) = false := beq_eq_false_iff_ne.mpr c50
            have c50b1 : (t179 != x9_4) = true := bne_iff_ne.mpr c50
            obtain rfl := Option.some.inj H
            have hcz54_0 : wr.cell? ⟨gb167, 0, none⟩ = some (.slice A0_0 l0_0.length c0_0) := (blk_cell BK167.out 0).trans rfl
            have hcz54_1 : wr.cell? ⟨gb167, 1, none⟩ = some (.slice A0_1 l0_1.length c0_1) := (blk_cell BK167.out 1).trans rfl
            have hcz54_2 : wr.cell? ⟨gb167, 2, none⟩ = some (.int .i64 a0_2) := (blk_cell BK167.out 2).trans rfl
            have hfz54_0 := blk_frozen BK167.out 0
            have hfz54_1 := blk_frozen BK167.out 1
            have hfz54_2 := blk_frozen BK167.out 2
            have p176 : 0 ≤ (x9_4 : Int) := of_decide_eq_true q5_3
            have q176 : x9_4 < (l0_1.length : Int) := of_decide_eq_true q5_3
            obtain ⟨ad176, e176, hx176_0, hx176_1, hx176_2, hx176_3⟩ := at_T62 HR0_1.out x9_4 p176 q176
            (try rw [← Nbq46.out] at hx176_3)
            (try rw [← Nbq46.out] at hw176_3)
            cases e176
            replace hx176_0 := (HB.out.cell (World.block_lt_of_cell? w _ hx176_0)).trans hx176_0
            replace hx176_1 := (HB.out.cell (World.block_lt_of_cell? w _ hx176_1)).trans hx176_1
            replace hx176_2 := (HB.out.cell (World.block_lt_of_cell? w _ hx176_2)).trans hx176_2
            replace hx176_3 := (HB.out.cell (World.block_lt_of_cell? w _ hx176_3)).trans hx176_3
            replace p176 := eq_true p176
            replace q176 := eq_true q176
            try go_wp2
            have n0_ := Aside0.mk (blk_drew BK167.out)
            have n1_ := Aside0.mk (below_drew1 HB.out)
            clear BK167 HB
            have BK167 := n0_
            have HB := n1_
            clear n0_ n1_
            have p177 : 0 ≤ (x9_4 : Int) := of_decide_eq_true q5_3
            have q177 : x9_4 < (l0_1.length : Int) := of_decide_eq_true q5_3
            obtain ⟨ad177, e177, hx177_0, hx177_1, hx177_2, hx177_3⟩ := at_T62 HR0_1.out x9_4 p177 q177
            have hw177_3 := hx177_3
            have hw177_2 := hx177_2
            have hw177_1 := hx177_1
            have hw177_0 := hx177_0
            (try rw [← Nbq46.out] at hx177_3)
            (try rw [← Nbq46.out] at hw177_3)
            obtain rfl : ad176 = ad177 := (by injection e177)
            replace hx177_0 := (HB.out.cell (World.block_lt_of_cell? w _ hx177_0)).trans hx177_0
            replace hx177_1 := (HB.out.cell (World.block_lt_of_cell? w _ hx177_1)).trans hx177_1
            replace hx177_2 := (HB.out.cell (World.block_lt_of_cell? w _ hx177_2)).trans hx177_2
            replace hx177_3 := (HB.out.cell (World.block_lt_of_cell? w _ hx177_3)).trans hx177_3
            replace p177 := eq_true p177
            replace q177 := eq_true q177
            have p178 : 0 ≤ (x9_4 : Int) := of_decide_eq_true q5_3
            have q178 : x9_4 < (l0_1.length : Int) := of_decide_eq_true q5_3
            obtain ⟨ad178, e178, hx178_0, hx178_1, hx178_2, hx178_3⟩ := at_T62 HR0_1.out x9_4 p178 q178
            have hw178_3 := hx178_3
            have hw178_2 := hx178_2
            have hw178_1 := hx178_1
            have hw178_0 := hx178_0
            (try rw [← Nbq46.out] at hx178_3)
            (try rw [← Nbq46.out] at hw178_3)
            obtain rfl : ad176 = ad178 := (by injection e178)
            replace hx178_0 := (HB.out.cell (World.block_lt_of_cell? w _ hx178_0)).trans hx178_0
            replace hx178_1 := (HB.out.cell (World.block_lt_of_cell? w _ hx178_1)).trans hx178_1
            replace hx178_2 := (HB.out.cell (World.block_lt_of_cell? w _ hx178_2)).trans hx178_2
            replace hx178_3 := (HB.out.cell (World.block_lt_of_cell? w _ hx178_3)).trans hx178_3
            replace p178 := eq_true p178
            replace q178 := eq_true q178
            refine start_ (n := 19) (S := fun w' => w'.cell? ⟨gb167, 0, none⟩ = some (.slice A0_0 l0_0.length c0_0) ∧ w'.cell? ⟨gb167, 1, none⟩ = some (.slice (some ad176) l0_1.length c0_1) ∧ w'.cell? ⟨gb167, 2, none⟩ = some (.int .i64 a0_2) ∧ w'.cell? (ad176.add ((x9_4).toNat * 4)) = some (.int .u64 ((rd_T62 l0_1 x9_4).f0)) ∧ w'.cell? ⟨(ad176.add ((x9_4).toNat * 4)).block, (ad176.add ((x9_4).toNat * 4)).off + 1, none⟩ = some (.int .i64 ((rd_T62 l0_1 x9_4).f1)) ∧ w'.cell? ⟨(ad176.add ((x9_4).toNat * 4)).block, (ad176.add ((x9_4).toNat * 4)).off + 2, none⟩ = some (.int .i64 ((rd_T62 l0_1 x9_4).f2)) ∧ w'.cell? ⟨(ad176.add ((x9_4).toNat * 4)).block, (ad176.add ((x9_4).toNat * 4)).off + 3, none⟩ = some (.bool (false)) ∧ w'.cell? (ad176.add ((x9_4).toNat * 4)) = some (.int .u64 ((rd_T62 l0_1 x9_4).f0)) ∧ w'.cell? ⟨(ad176.add ((x9_4).toNat * 4)).block, (ad176.add ((x9_4).toNat * 4)).off + 1, none⟩ = some (.int .i64 ((rd_T62 l0_1 x9_4).f1)) ∧ w'.cell? ⟨(ad176.add ((x9_4).toNat * 4)).block, (ad176.add ((x9_4).toNat * 4)).off + 2, none⟩ = some (.int .i64 ((rd_T62 l0_1 x9_4).f2)) ∧ w'.cell? ⟨(ad176.add ((x9_4).toNat * 4)).block, (ad176.add ((x9_4).toNat * 4)).off + 3, none⟩ = some (.bool (false))) (ds := []) (bs_ 19 0) q5_4 rfl rfl ⟨(blk_cell BK167.out 0).trans rfl, (blk_cell BK167.out 1).trans rfl, (blk_cell BK167.out 2).trans rfl, ((HB.out.cell (World.block_lt_of_cell? w _ hw177_0)).trans hw177_0), ((HB.out.cell (World.block_lt_of_cell? w _ hw177_1)).trans hw177_1), ((HB.out.cell (World.block_lt_of_cell? w _ hw177_2)).trans hw177_2), ((HB.out.cell (World.block_lt_of_cell? w _ hw177_3)).trans hw177_3), ((HB.out.cell (World.block_lt_of_cell? w _ hw178_0)).trans hw178_0), ((HB.out.cell (World.block_lt_of_cell? w _ hw178_1)).trans hw178_1), ((HB.out.cell (World.block_lt_of_cell? w _ hw178_2)).trans hw178_2), ((HB.out.cell (World.block_lt_of_cell? w _ hw178_3)).trans hw178_3)⟩ (fun hHeld => ?_); refine with_tabW spec_DictOk.tab25 spec_DictOk.bits25 (fun HT_ HW_ => ?_)
            generalize wr.drew = w55 at BK167 HB hx177_0 hx177_1 hx177_2 hx177_3 hx178_0 hx178_1 hx178_2 hx178_3 hHeld ⊢
            refine pure_ (i := 1) (N := some 90) (bs_ 19 2) rfl rfl (any_of HT_.out q5_4) (fun _ _ _ h => h) (Or.inl ⟨by rfl, qpy_pdix5⟩) qpa_pdix5 ?_
            refine pure_ (i := 3) (N := some 92) (bs_ 19 10) rfl rfl (any_of HT_.out q5_4) (fun _ _ _ h => h) (Or.inl ⟨by rfl, qpy_pdix5⟩) qpa_pdix5 ?_
            refine pure_ (i := 7) (N := some 96) (bs_ 19 138) rfl rfl (any_of HT_.out q5_4) (fun _ _ _ h => h) (Or.inl ⟨by rfl, qpy_pdix5⟩) qpa_pdix5 ?_
            refine pure_ (i := 9) (N := some 98) (bs_ 19 650) rfl rfl (any_of HT_.out q5_4) (fun _ _ _ h => h) (Or.inl ⟨by rfl, qpy_pdix5⟩) qpa_pdix5 ?_
            refine take_ (i := 0) (N := some 89) (bs_ 19 651) rfl rfl (take_ofW HT_.out HW_.out q5_4) (fun _ _ _ h => h) (Or.inl ⟨by rfl, qpt11_pdix5⟩) hHeld qpa_pdix5 ?_
            refine take_ (i := 2) (N := some 91) (bs_ 19 655) rfl rfl (take_ofW HT_.out HW_.out q5_4) (fun _ _ _ h => h) (Or.inl ⟨by rfl, qpt11_pdix5⟩) hHeld qpa_pdix5 ?_
            refine pure_ (i := 4) (N := some 93) (bs_ 19 671) rfl rfl (any_of HT_.out q5_4) (fun _ _ _ h => h) (Or.inl ⟨by rfl, qpy_pdix5⟩) qpa_pdix5 ?_
            refine pure_ (i := 5) (N := some 94) (bs_ 19 703) rfl rfl (any_of HT_.out q5_4) (fun _ _ _ h => h) (Or.inl ⟨by rfl, qpy_pdix5⟩) qpa_pdix5 ?_
            refine take_ (i := 6) (N := some 95) (bs_ 19 767) rfl rfl (take_ofW HT_.out HW_.out q5_4) (fun _ _ _ h => h) (Or.inl ⟨by rfl, qpt11_pdix5⟩) hHeld qpa_pdix5 ?_
            refine take_ (i := 8) (N := some 97) (bs_ 19 1023) rfl rfl (take_ofW HT_.out HW_.out q5_4) (fun _ _ _ h => h) (Or.inl ⟨by rfl, qpt11_pdix5⟩) hHeld qpa_pdix5 ?_
            refine pure_ (i := 10) (N := some 99) (bs_ 19 2047) rfl rfl (any_of HT_.out q5_4) (fun _ _ _ h => h) (Or.inl ⟨by rfl, qpy_pdix5⟩) qpa_pdix5 ?_
            refine pure_ (i := 11) (N := some 100) (bs_ 19 4095) rfl rfl (any_of HT_.out q5_4) (fun _ _ _ h => h) (Or.inl ⟨by rfl, qpy_pdix5⟩) qpa_pdix5 ?_
            refine take_ (i := 12) (N := some 101) (bs_ 19 8191) rfl rfl (take_ofW HT_.out HW_.out q5_4) (fun _ _ _ h => h) (Or.inl ⟨by rfl, qpt11_pdix5⟩) hHeld qpa_pdix5 ?_
            refine one_ (i := 13) (N := some 102) (bs_ 19 16383) rfl rfl (one_of HT_.out q5_4) (by decide) (fun K hK => ?_)
            refine goes_ Try.func55 q5_4 rfl #[.agg #[.slice A0_0 l0_0.length c0_0, .slice (some ad176) l0_1.length c0_1, .int .i64 a0_2], .int .u64 ((rd_T62 l0_1 x9_4).f0), .int .i64 ((rd_T62 l0_1 x9_4).f1)] (by rfl) rfl rfl q5_6 ?_
            with_reducible refine (spec_l7Find.calls k4 _ _ l0_0 _ _ l0_1 a0_2 ((rd_T62 l0_1 x9_4).f0) ((rd_T62 l0_1 x9_4).f1) t179 t180 _ ?side1 ?side2 ?side3 ?side4 A49.out).mono ?_
            (case side1 => exact (q5_5 HR0_0 HB))
            (case side2 => exact HC0_0.out)
            (case side3 => exact (q5_5 HR0_1 HB))
            (case side4 => exact HC0_1.out)
            rintro e w56 ⟨rfl, hb⟩
            refine ⟨_, rfl, ?_⟩
            have n0_ := Aside0.mk (blk_below (q5_2 BK167) hb)
            have n1_ := Aside0.mk (below_step (q5_1 HB GE167) hb)
            clear BK167 HB
            have BK167 := n0_
            have HB := n1_
            clear n0_ n1_
            (try clear hb)
            (try clear hb2)
            (try clear hk)
            (try clear hi)
            refine hK.out _ _ ⟨(blk_cell BK167.out 0).trans rfl, (blk_cell BK167.out 1).trans rfl, (blk_cell BK167.out 2).trans rfl, ((HB.out.cell (World.block_lt_of_cell? w _ hw177_0)).trans hw177_0), ((HB.out.cell (World.block_lt_of_cell? w _ hw177_1)).trans hw177_1), ((HB.out.cell (World.block_lt_of_cell? w _ hw177_2)).trans hw177_2), ((HB.out.cell (World.block_lt_of_cell? w _ hw177_3)).trans hw177_3), ((HB.out.cell (World.block_lt_of_cell? w _ hw178_0)).trans hw178_0), ((HB.out.cell (World.block_lt_of_cell? w _ hw178_1)).trans hw178_1), ((HB.out.cell (World.block_lt_of_cell? w _ hw178_2)).trans hw178_2), ((HB.out.cell (World.block_lt_of_cell? w _ hw178_3)).trans hw178_3)⟩ (fun hHeld => ?_)
            clear hK K
            refine norm_ (a' := ?_) ?_ ?_
            rotate_left
            ·show Act.put _ (some 102) _ = _
             simp only [Act.put, List.setIfInBounds_toArray, List.set_cons_zero, List.set_cons_succ, i64_w, i32_w]
             rfl
            refine pure_ (i := 14) (N := some 88) (bs_ 19 32767) rfl rfl (any_of HT_.out q5_4) (fun _ _ _ h => h) (Or.inl ⟨by rfl, qpy_pdix5⟩) qpa_pdix5 ?_
            refine pure_ (i := 15) (N := some 103) (bs_ 19 65535) rfl rfl (any_of HT_.out q5_4) (fun _ _ _ h => h) (Or.inl ⟨by rfl, qpy_pdix5⟩) qpa_pdix5 ?_
            refine pure_ (i := 16) (N := some 104) (bs_ 19 131071) rfl rfl (any_of HT_.out q5_4) (fun _ _ _ h => h) (Or.inl ⟨by rfl, qpy_pdix5⟩) qpa_pdix5 ?_
            refine pure_ (i := 17) (N := some 10) (bs_ 19 262143) rfl rfl (any_of HT_.out q5_4) (fun _ _ _ h => h) (Or.inl ⟨by rfl, qpy_pdix5⟩) qpa_pdix5 ?_
            refine pure_ (i := 18) (N := some 11) (bs_ 19 524287) rfl rfl (any_of HT_.out q5_4) (fun _ _ _ h => h) (Or.inl ⟨by rfl, qpy_pdix5⟩) qpa_pdix5 ?_
            refine done_ (done_of HT_.out q5_4) ?_
            try go_wp2
            go_ret
            exact ⟨rdi5_4, (rdi5_1 HB GE167)⟩
           rw [if_neg c45] at H
           exact absurd H (by simp)
          rw [if_neg c44] at H
          have c44b0 : decide (x9_4 < (l0_1.length : Int)) = false := decide_eq_false c44
          clear c44
          obtain rfl := Option.some.inj H
          have hcz57_0 : wr.cell? ⟨gb167, 0, none⟩ = some (.slice A0_0 l0_0.length c0_0) := (blk_cell BK167.out 0).trans rfl
          have hcz57_1 : wr.cell? ⟨gb167, 1, none⟩ = some (.slice A0_1 l0_1.length c0_1) := (blk_cell BK167.out 1).trans rfl
          have hcz57_2 : wr.cell? ⟨gb167, 2, none⟩ = some (.int .i64 a0_2) := (blk_cell BK167.out 2).trans rfl
          have hfz57_0 := blk_frozen BK167.out 0
          have hfz57_1 := blk_frozen BK167.out 1
          have hfz57_2 := blk_frozen BK167.out 2
          go_wp2
          go_ret
          exact ⟨rdi5_4, (rdi5_1 HB GE167)⟩
     rw [if_neg c31] at H
     have c31b0 : (x4_2 == a0_2) = false := beq_eq_false_iff_ne.mpr c31
     have c31b1 : (x4_2 != a0_2) = true := bne_iff_ne.mpr c31
     obtain rfl := Option.some.inj H
     have hcz58_0 : wr.cell? ⟨gb167, 0, none⟩ = some (.slice A0_0 l0_0.length c0_0) := (blk_cell BK167.out 0).trans rfl
     have hcz58_1 : wr.cell? ⟨gb167, 1, none⟩ = some (.slice A0_1 l0_1.length c0_1) := (blk_cell BK167.out 1).trans rfl
     have hcz58_2 : wr.cell? ⟨gb167, 2, none⟩ = some (.int .i64 a0_2) := (blk_cell BK167.out 2).trans rfl
     have hfz58_0 := blk_frozen BK167.out 0
     have hfz58_1 := blk_frozen BK167.out 1
     have hfz58_2 := blk_frozen BK167.out 2
     go_wp2
     go_ret
     exact ⟨rdi5_4, (rdi5_1 HB GE167)⟩
end Go.Proofs.Ytohilfkdfcihgaa.PDi
