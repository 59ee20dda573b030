/- Go functions as Lean functions, and that each Go function comes to just that; printed by a program of this session (gprint.py over the kit's print.py). No condition. -/
import Derived.Test.YtohilfkdfcihgaaPDix0
import Derived.Test.YtohilfkdfcihgaaPDix4
import Derived.Test.YtohilfkdfcihgaaPDix5
namespace Go.Proofs.Ytohilfkdfcihgaa.PDi
open Go.RowKit Go.Proofs.YtohilfkdfcihgaaW.PrintWords Go.Proofs.YtohilfkdfcihgaaW.PrintLast Go.Proofs.YtohilfkdfcihgaaW.PrintMore
attribute [local go_sem] max2_int min2_int max_two min_two max_three min_three max_four min_four   -- for this text's walks alone
set_option linter.unusedVariables false
set_option linter.unusedSimpArgs false

-- GIVEN: function 13 (laws_eqDict)

theorem qdc1_1 {P Q0 Q1 Q2 : Prop} (y0 : Q0) (y1 : Q1) (y2 : Q2) (h : Q0 → Q1 → Q2 → P := by intro y0_ y1_ y2_; repeat (first | (with_reducible first | exact y0_.out | apply below_alloc | apply pw_below_drewN | apply below_drew1 | refine below_set ?_ y1_.out | refine below_set ?_ y2_.out) | exact y0_.out)) : P := h y0 y1 y2
theorem qdc1_2 {P Q0 : Prop} (y0 : Q0) (h : Q0 → P := by intro y0_; (with_reducible repeat (first | refine blk_drewN ?_ _ | refine blk_drew ?_ | refine blk_alloc ?_ _)); exact y0_.out) : P := h y0
theorem qdc1_3 {P Q0 : Prop} (y0 : Q0) (h : Q0 → P := by intro y0_; (with_reducible repeat (first | apply Kd.R_alloc | apply Kd.R_drewN | apply Kd.R_drew)); exact y0_.out) : P := h y0
theorem qdc1_4 {P Q0 Q1 : Prop} (y0 : Q0) (y1 : Q1) (h : Q0 → Q1 → P := by intro y0_ y1_; repeat (first | (with_reducible first | exact y0_.out | apply below_alloc | apply pw_below_drewN | apply below_drew1 | refine below_set ?_ y1_.out) | exact y0_.out)) : P := h y0 y1
theorem qdc1_5 {P Q0 : Prop} (y0 : Q0) (h : Q0 → P := by intro y0_; repeat (first | (with_reducible first | exact y0_.out | apply below_alloc | apply pw_below_drewN | apply below_drew1) | exact y0_.out)) : P := h y0
theorem qdc1_6 {P : Prop} (h : P := by first | (with_reducible assumption) | assumption) : P := h
theorem qdc1_7 {P Q0 Q1 : Prop} (y0 : Q0) (y1 : Q1) (h : Q0 → Q1 → P := by intro y0_ y1_; repeat (first | exact (Kd.C_below y0_.out y1_.out) | (with_reducible refine Kd.C_alloc ?_ _) | (with_reducible refine Kd.C_drewN ?_ _) | (with_reducible refine Kd.C_drew ?_))) : P := h y0 y1
theorem qdc1_16 {P : Prop} (h : P := by decide) : P := h
theorem qdc1_8 {P Q0 Q1 : Prop} (y0 : Q0) (y1 : Q1) (h : Q0 → Q1 → P := by intro y0_ y1_; (with_reducible repeat (first | apply Kd.R_alloc | apply Kd.R_drewN | apply Kd.R_drew)); exact (Kd.R_mono (Kd.R_far (p := ⟨gb125, 2, none⟩) (Kd.R_far (p := ⟨gb125, 1, none⟩) (Kd.R_far (p := ⟨gb125, 0, none⟩) (Kd.R_types y0_.out y1_.out qdc1_16) (fun _ hk => hk.2) (.slice Ao12 t127.length co12)) (fun _ hk => hk.2) (.slice Ao14 t130.length co14)) (fun _ hk => hk.2) (.int .i64 t133)) (fun _ h_ => h_.1))) : P := h y0 y1
theorem qdc1_9 {P Q0 Q1 : Prop} (y0 : Q0) (y1 : Q1) (h : Q0 → Q1 → P := by intro y0_ y1_; (with_reducible repeat (first | apply Kd.R_alloc | apply Kd.R_drewN | apply Kd.R_drew)); exact (Kd.R_mono (Kd.R_far (p := ⟨gb125, 2, none⟩) (Kd.R_far (p := ⟨gb125, 1, none⟩) (Kd.R_far (p := ⟨gb125, 0, none⟩) (Kd.R_types y0_.out y1_.out qdc1_16) (fun _ hk => hk.2) (.slice Ao26 t127.length co26)) (fun _ hk => hk.2) (.slice Ao28 t130.length co28)) (fun _ hk => hk.2) (.int .i64 t133)) (fun _ h_ => h_.1))) : P := h y0 y1
theorem qdc1_10 {P : Prop} (h : P := by (try simp only [List.map_toArray, List.map_cons, List.map_nil]); first | done | rfl | (simp only [List.length_drop, List.length_take]; rfl)) : P := h
theorem qdc1_11 {P : Prop} (h : P := by first | (go_simp; done) | (go_simp; rfl)) : P := h
theorem qdc1_12 {P Q0 : Prop} (y0 : Q0) (h : Q0 → P := by intro y0_; repeat (first | (with_reducible first | exact y0_.out | apply Kept.alloc | apply Kept.drewN | apply Kept.drew) | exact y0_.out)) : P := h y0
theorem qdc1_13 {P Q0 Q1 : Prop} (y0 : Q0) (y1 : Q1) (h : Q0 → Q1 → P := by intro y0_ y1_; (with_reducible repeat (first | refine blk_drewN ?_ _ | refine blk_drew ?_ | refine blk_alloc ?_ _)); refine blk_far ?_ y0_.out _; (with_reducible repeat (first | refine blk_drewN ?_ _ | refine blk_drew ?_ | refine blk_alloc ?_ _)); refine blk_far ?_ y0_.out _; (with_reducible repeat (first | refine blk_drewN ?_ _ | refine blk_drew ?_ | refine blk_alloc ?_ _)); refine blk_far ?_ y0_.out _; (with_reducible repeat (first | refine blk_drewN ?_ _ | refine blk_drew ?_ | refine blk_alloc ?_ _)); exact y1_.out) : P := h y0 y1
theorem qdc1_14 {P : Prop} (h : P := by first | rfl | (simp; done) | (simp [*]; done)) : P := h
theorem qdc1_15 {P : Prop} (h : P := by kernel_rfl) : P := h
/-! ### laws_markInt64S: function 31 -/
def laws_markInt64S.l0 : Nat → List Int → Int → Int → Option (Int × List Int)
 | 0, _, _, _ => none
 | k + 1, x0, x1, x5 => if x5 < (x0.length : Int) then (if 0 ≤ x5 then (laws_markInt64S.l0 k (x0.set (x5 : Int).toNat x1) (wrap64 (x1 + 1)) (wrap64 (x5 + 1))) else (none)) else (some (x1, x0))
def laws_markInt64S.f (k : Nat) (l0 : List Int) (a1 : Int) : Option (Int × List Int) := laws_markInt64S.l0 k l0 a1 0
theorem laws_markInt64S.mono_l : ∀ k, (∀ y0 y1 y2, LeO (laws_markInt64S.l0 k y0 y1 y2) (laws_markInt64S.l0 (k + 1) y0 y1 y2))
 | 0 => fun _ _ _ r h => by simp [laws_markInt64S.l0] at h
 | k + 1 => by
  have ih0 := laws_markInt64S.mono_l k
  ·intro y0 y1 y2
   unfold laws_markInt64S.l0
   repeat' first
   | (with_reducible exact ih0 _ _ _)
   | (with_reducible exact LeO.refl _)
   | (with_reducible exact LeO.none _)
   | (with_reducible refine LeO.ite ?_ ?_)
   | (with_reducible refine LeO.bind ?_ (fun _ => ?_))
   | exact ih0 _ _ _
   | exact LeO.none _
   | refine LeO.ite ?_ ?_
   | refine LeO.bind ?_ (fun _ => ?_)
theorem laws_markInt64S.mono : ∀ a0 a1 k, LeO (laws_markInt64S.f k a0 a1) (laws_markInt64S.f (k + 1) a0 a1) := by
 intro a0 a1 k
 have ih0 := laws_markInt64S.mono_l k
 unfold laws_markInt64S.f
 repeat' first
   | (with_reducible exact ih0 _ _ _)
   | (with_reducible exact LeO.refl _)
   | (with_reducible exact LeO.none _)
   | (with_reducible refine LeO.ite ?_ ?_)
   | (with_reducible refine LeO.bind ?_ (fun _ => ?_))
   | exact ih0 _ _ _
   | exact LeO.none _
   | refine LeO.ite ?_ ?_
   | refine LeO.bind ?_ (fun _ => ?_)
set_option maxHeartbeats 8000000 in
set_option maxRecDepth 100000 in
theorem laws_markInt64S.calls (k : Nat) (P0_ : Nat → Prop) (u9000_ : Value) (l0 : List Int) (a1 : Int) (r1 : Int) (r2 : List Int) (w0 w : World) (hB : Below w0.heap.size w0 w) (ho0 : Kd.R (Kd.int .i64) 2 w w0.heap.size P0_ u9000_ l0) (h : laws_markInt64S.f k l0 a1 = some (r1, r2)) :
  Calls Try.prog 31 #[u9000_, .int .i64 a1] w fun e w' => e = .returned (.int .i64 r1) ∧ Kd.R (Kd.int .i64) 2 w' w0.heap.size (fun k_ => (P0_ k_ ∨ w.heap.size ≤ k_)) u9000_ r2 ∧ Below w0.heap.size w0 w' ∧ Kept w w' (fun k_ => P0_ k_) := by
 have HO0 := Aside0.mk (show Kd.R (Kd.int .i64) 2 w w0.heap.size (fun k_ => (P0_ k_ ∨ w.heap.size ≤ k_)) u9000_ l0 from Kd.R_mono ho0 (fun k_ hk => (.inl hk)))
 have HK := Aside0.mk (Kept.refl w (fun k_ => P0_ k_))
 have HW0 := Aside0.mk hB.size
 have HB := Aside0.mk hB
 clear hB
 have H : (laws_markInt64S.l0 k l0 a1 0) = some (r1, r2) := h
 clear h
 have H' := Aside0.mk H
 clear H
 go_enter Try.func31, Try.ntmps31
 go_wp2
 go_loopg [1, 5] k (fun kq v1 v5 w' => ∃ (x0_1 : List Int) (x1_1 : Int) (x5_1 : Int), v1 = .int .i64 x1_1 ∧ v5 = .int .i64 x5_1 ∧ Aside0 (laws_markInt64S.l0 kq x0_1 x1_1 x5_1 = some (r1, r2)) ∧ Aside0 (kq ≤ k) ∧ Aside0 (Kd.R (Kd.int .i64) 2 w' w0.heap.size (fun k_ => (P0_ k_ ∨ w.heap.size ≤ k_)) u9000_ x0_1) ∧ Aside0 (Kept w w' (fun k_ => P0_ k_)) ∧ Aside0 (Below w0.heap.size w0 w'))
 case atStart => exact ⟨(l0), (a1), (0), qdc1_14, qdc1_14, H', ⟨Nat.le_refl _⟩, ⟨by (with_reducible repeat (first | apply Kd.R_alloc | apply Kd.R_drewN | apply Kd.R_drew)); exact HO0.out⟩, ⟨by repeat (first | (with_reducible first | exact HK.out | apply Kept.alloc | apply Kept.drewN | apply Kept.drew) | exact HK.out)⟩, ⟨by repeat (first | (with_reducible first | exact HB.out | apply below_alloc | apply pw_below_drewN | apply below_drew1) | exact HB.out)⟩⟩
 case round =>
  clear H'
  try clear p2
  obtain ⟨x0_1, x1_1, x5_1, rfl, rfl, HA, HK1, HO_0, HK, HB⟩ := hrel
  cases gk with
  | zero => exact absurd HA.out (by simp [laws_markInt64S.l0])
  | succ k1 =>
   have H := HA.out
   clear HA
   simp only [laws_markInt64S.l0] at H
   by_cases c3 : x5_1 < (x0_1.length : Int)
   ·rw [if_pos c3] at H
    have c3b0 : decide (x5_1 < (x0_1.length : Int)) = true := decide_eq_true c3
    clear c3
    by_cases c4 : 0 ≤ x5_1
    ·rw [if_pos c4] at H
     have c4b0 : decide (0 ≤ x5_1) = true := decide_eq_true c4
     clear c4
     obtain ⟨y101, hy101⟩ : ∃ y_ : List Int, y_ = (x0_1.set (x5_1 : Int).toNat x1_1) := ⟨_, rfl⟩
     replace H : (laws_markInt64S.l0 k1 y101 (wrap64 (x1_1 + 1)) (wrap64 (x5_1 + 1))) = some (r1, r2) := by first | (rw [hy101]; with_reducible exact H) | (have H2_ := (Option.bind_some _ _).symm.trans H; rw [hy101]; with_reducible exact H2_) | (have H2_ := (Option.bind_some _ _).symm.trans H; with_reducible exact H2_) | with_reducible exact H | (rw [hy101]; exact H) | exact H
     have Ny101 := Aside0.mk hy101
     clear hy101
     have H' := Aside0.mk H
     clear H
     obtain ⟨Ao6, co6, eo6⟩ := Kd.R_slice HO_0.out
     subst eo6
     have p5 : 0 ≤ (x5_1 : Int) := of_decide_eq_true qdc1_6
     have q5 : (x5_1 : Int) < ((x0_1.length : Int) : Int) := of_decide_eq_true qdc1_6
     obtain ⟨go5, co5, eo5, gb5, gl5, cl5, HG5⟩ := Kd.R_form HO_0.out (by omega)
     (first | cases eo5 | (injection eo5 with ea_ en_ ec_; (first | subst ea_ | (injection ea_ with ea_; subst ea_)); subst ec_; clear en_))
     have GB5 := Aside0.mk gb5
     have GG5 := Aside0.mk HG5
     clear gb5 gl5 HG5
     have HMgo5 := Aside0.mk (show (P0_ go5 ∨ w.heap.size ≤ go5) from (HO_0.out.1 _ rfl))
     obtain ⟨hx5_0, hf5_0⟩ := Kd.R_celln 0 HO_0.out (x5_1 : Int) p5 q5
     replace p5 := eq_true p5
     replace q5 := eq_true q5
     have HP7 := Kd.R_putg HO_0.out (x5_1 : Int) x1_1
     go_wp2_with (first | ((with_reducible refine gate_store (t := 2) (p := 15) rfl ?_); refine store_event (t := 2) (p := 15) (v := ?vo_w8) (w1 := (wr.setCell ⟨go5, (x5_1 : Int).toNat, none⟩ (.int .i64 x1_1))) ?hg ?ho ?hn ?hr ?_; (case ho => rfl); (case hg => rfl); (case hn => rfl); (case hr => exact qdc1_11); intro w8 hw; have hg : wr.grownBy w8 (some go5) := (by rw [hw]; exact HP7.2); have hp_ : Kd.R (Kd.int .i64) 2 w8 w0.heap.size (fun k_ => (P0_ k_ ∨ w.heap.size ≤ k_)) (.slice (some ⟨go5, 0, none⟩) x0_1.length co6) y101 := (by rw [hw, Ny101.out]; exact HP7.1); clear HP7; have n0_ := Aside0.mk (hp_); have n1_ := Aside0.mk ((by rw [hw]; exact below_set (HB.out) GB5.out : Below w0.heap.size w0 w8)); have n2_ := Aside0.mk (Kept.of_grown (S := (fun k_ => P0_ k_)) hg (qdc1_12 HK) (fun k_ e_ => (HO_0.out.1 k_ e_))); clear HO_0; clear HB; clear HK; have HO_0 := n0_; have HB := n1_; have HK := n2_; clear n0_ n1_ n2_; clear hg hw hp_))
     go_roundg k1
     case measure => have := HK1.out; omega
     case rel => exact ⟨(y101), (wrap64 (x1_1 + 1)), (wrap64 (x5_1 + 1)), qdc1_14, qdc1_14, H', ⟨by have := HK1.out; omega⟩, ⟨by (with_reducible repeat (first | apply Kd.R_alloc | apply Kd.R_drewN | apply Kd.R_drew)); exact HO_0.out⟩, ⟨by repeat (first | (with_reducible first | exact HK.out | apply Kept.alloc | apply Kept.drewN | apply Kept.drew) | exact HK.out)⟩, ⟨by repeat (first | (with_reducible first | exact HB.out | apply below_alloc | apply pw_below_drewN | apply below_drew1) | exact HB.out)⟩⟩
    ·rw [if_neg c4] at H
     exact absurd H (by simp)
   ·rw [if_neg c3] at H
    have c3b0 : decide (x5_1 < (x0_1.length : Int)) = false := decide_eq_false c3
    clear c3
    simp only [Option.some.injEq, Prod.mk.injEq] at H
    obtain ⟨rfl, rfl⟩ := H
    obtain ⟨Ao9, co9, eo9⟩ := Kd.R_slice HO_0.out
    subst eo9
    go_wp2
    go_ret
    exact ⟨by first | rfl | (simp [errW_none, errW_some] <;> rfl) | (simp [*, errW_none, errW_some] <;> rfl), by (with_reducible repeat (first | apply Kd.R_alloc | apply Kd.R_drewN | apply Kd.R_drew)); exact HO_0.out, by repeat (first | (with_reducible first | exact HB.out | apply below_alloc | apply pw_below_drewN | apply below_drew1) | exact HB.out), by repeat (first | (with_reducible first | exact HK.out | apply Kept.alloc | apply Kept.drewN | apply Kept.drew) | exact HK.out)⟩

/-! ### laws_markDEntryS: function 42 -/
def laws_markDEntryS.l0 : Nat → List (S62) → Int → Int → Option (Int × (List (S62)))
 | 0, _, _, _ => none
 | k + 1, x0, x1, x5 => if x5 < (x0.length : Int) then (if 0 ≤ x5 then ((some (x0.set (x5 : Int).toNat (⟨IntKind.u64.wrap (x1), (rd_T62 x0 x5).f1, (rd_T62 x0 x5).f2, (rd_T62 x0 x5).f3⟩ : S62) : List (S62))).bind fun y102 => ((some (y102.set (x5 : Int).toNat (⟨(rd_T62 y102 x5).f0, wrap64 (x1 + 1), (rd_T62 y102 x5).f2, (rd_T62 y102 x5).f3⟩ : S62) : List (S62))).bind fun y103 => ((some (y103.set (x5 : Int).toNat (⟨(rd_T62 y103 x5).f0, (rd_T62 y103 x5).f1, wrap64 ((wrap64 (x1 + 1)) + 1), (rd_T62 y103 x5).f3⟩ : S62) : List (S62))).bind fun y104 => (laws_markDEntryS.l0 k (y104.set (x5 : Int).toNat (⟨(rd_T62 y104 x5).f0, (rd_T62 y104 x5).f1, (rd_T62 y104 x5).f2, ((Int.tmod (wrap64 ((wrap64 ((wrap64 (x1 + 1)) + 1)) + 1)) 3) == 0)⟩ : S62)) (wrap64 ((wrap64 ((wrap64 ((wrap64 (x1 + 1)) + 1)) + 1)) + 1)) (wrap64 (x5 + 1)))))) else (none)) else (some (x1, x0))
def laws_markDEntryS.f (k : Nat) (l0 : List (S62)) (a1 : Int) : Option (Int × (List (S62))) := laws_markDEntryS.l0 k l0 a1 0
theorem laws_markDEntryS.mono_l : ∀ k, (∀ y0 y1 y2, LeO (laws_markDEntryS.l0 k y0 y1 y2) (laws_markDEntryS.l0 (k + 1) y0 y1 y2))
 | 0 => fun _ _ _ r h => by simp [laws_markDEntryS.l0] at h
 | k + 1 => by
  have ih0 := laws_markDEntryS.mono_l k
  ·intro y0 y1 y2
   unfold laws_markDEntryS.l0
   repeat' first
   | (with_reducible exact ih0 _ _ _)
   | (with_reducible exact LeO.refl _)
   | (with_reducible exact LeO.none _)
   | (with_reducible refine LeO.ite ?_ ?_)
   | (with_reducible refine LeO.bind ?_ (fun _ => ?_))
   | exact ih0 _ _ _
   | exact LeO.none _
   | refine LeO.ite ?_ ?_
   | refine LeO.bind ?_ (fun _ => ?_)
theorem laws_markDEntryS.mono : ∀ a0 a1 k, LeO (laws_markDEntryS.f k a0 a1) (laws_markDEntryS.f (k + 1) a0 a1) := by
 intro a0 a1 k
 have ih0 := laws_markDEntryS.mono_l k
 unfold laws_markDEntryS.f
 repeat' first
   | (with_reducible exact ih0 _ _ _)
   | (with_reducible exact LeO.refl _)
   | (with_reducible exact LeO.none _)
   | (with_reducible refine LeO.ite ?_ ?_)
   | (with_reducible refine LeO.bind ?_ (fun _ => ?_))
   | exact ih0 _ _ _
   | exact LeO.none _
   | refine LeO.ite ?_ ?_
   | refine LeO.bind ?_ (fun _ => ?_)
set_option maxHeartbeats 8000000 in
set_option maxRecDepth 100000 in
theorem laws_markDEntryS.calls (k : Nat) (P0_ : Nat → Prop) (u9000_ : Value) (l0 : List (S62)) (a1 : Int) (r1 : Int) (r2 : List (S62)) (w0 w : World) (hB : Below w0.heap.size w0 w) (ho0 : Kd.R k62 62 w w0.heap.size P0_ u9000_ l0) (h : laws_markDEntryS.f k l0 a1 = some (r1, r2)) :
  Calls Try.prog 42 #[u9000_, .int .i64 a1] w fun e w' => e = .returned (.int .i64 r1) ∧ Kd.R k62 62 w' w0.heap.size (fun k_ => (P0_ k_ ∨ w.heap.size ≤ k_)) u9000_ r2 ∧ Below w0.heap.size w0 w' ∧ Kept w w' (fun k_ => P0_ k_) := by
 have HO0 := Aside0.mk (show Kd.R k62 62 w w0.heap.size (fun k_ => (P0_ k_ ∨ w.heap.size ≤ k_)) u9000_ l0 from Kd.R_mono ho0 (fun k_ hk => (.inl hk)))
 have HK := Aside0.mk (Kept.refl w (fun k_ => P0_ k_))
 have HW0 := Aside0.mk hB.size
 have HB := Aside0.mk hB
 clear hB
 have H : (laws_markDEntryS.l0 k l0 a1 0) = some (r1, r2) := h
 clear h
 have H' := Aside0.mk H
 clear H
 go_enter Try.func42, Try.ntmps42
 go_wp2
 go_loopg [1, 5] k (fun kq v1 v5 w' => ∃ (x0_1 : List (S62)) (x1_1 : Int) (x5_1 : Int), v1 = .int .i64 x1_1 ∧ v5 = .int .i64 x5_1 ∧ Aside0 (laws_markDEntryS.l0 kq x0_1 x1_1 x5_1 = some (r1, r2)) ∧ Aside0 (kq ≤ k) ∧ Aside0 (Kd.R k62 62 w' w0.heap.size (fun k_ => (P0_ k_ ∨ w.heap.size ≤ k_)) u9000_ x0_1) ∧ Aside0 (Kept w w' (fun k_ => P0_ k_)) ∧ Aside0 (Below w0.heap.size w0 w'))
 case atStart => exact ⟨(l0), (a1), (0), qdc1_14, qdc1_14, H', ⟨Nat.le_refl _⟩, ⟨by (with_reducible repeat (first | apply Kd.R_alloc | apply Kd.R_drewN | apply Kd.R_drew)); exact HO0.out⟩, ⟨by repeat (first | (with_reducible first | exact HK.out | apply Kept.alloc | apply Kept.drewN | apply Kept.drew) | exact HK.out)⟩, ⟨by repeat (first | (with_reducible first | exact HB.out | apply below_alloc | apply pw_below_drewN | apply below_drew1) | exact HB.out)⟩⟩
 case round =>
  clear H'
  try clear p2
  obtain ⟨x0_1, x1_1, x5_1, rfl, rfl, HA, HK1, HO_0, HK, HB⟩ := hrel
  cases gk with
  | zero => exact absurd HA.out (by simp [laws_markDEntryS.l0])
  | succ k1 =>
   have H := HA.out
   clear HA
   simp only [laws_markDEntryS.l0] at H
   by_cases c3 : x5_1 < (x0_1.length : Int)
   ·rw [if_pos c3] at H
    have c3b0 : decide (x5_1 < (x0_1.length : Int)) = true := decide_eq_true c3
    clear c3
    by_cases c4 : 0 ≤ x5_1
    ·rw [if_pos c4] at H
     have c4b0 : decide (0 ≤ x5_1) = true := decide_eq_true c4
     clear c4
     obtain ⟨y102, hy102⟩ : ∃ y_ : List (S62), y_ = (x0_1.set (x5_1 : Int).toNat (⟨IntKind.u64.wrap (x1_1), (rd_T62 x0_1 x5_1).f1, (rd_T62 x0_1 x5_1).f2, (rd_T62 x0_1 x5_1).f3⟩ : S62)) := ⟨_, rfl⟩
     replace H : ((some (y102.set (x5_1 : Int).toNat (⟨(rd_T62 y102 x5_1).f0, wrap64 (x1_1 + 1), (rd_T62 y102 x5_1).f2, (rd_T62 y102 x5_1).f3⟩ : S62) : List (S62))).bind fun y103 => ((some (y103.set (x5_1 : Int).toNat (⟨(rd_T62 y103 x5_1).f0, (rd_T62 y103 x5_1).f1, wrap64 ((wrap64 (x1_1 + 1)) + 1), (rd_T62 y103 x5_1).f3⟩ : S62) : List (S62))).bind fun y104 => (laws_markDEntryS.l0 k1 (y104.set (x5_1 : Int).toNat (⟨(rd_T62 y104 x5_1).f0, (rd_T62 y104 x5_1).f1, (rd_T62 y104 x5_1).f2, ((Int.tmod (wrap64 ((wrap64 ((wrap64 (x1_1 + 1)) + 1)) + 1)) 3) == 0)⟩ : S62)) (wrap64 ((wrap64 ((wrap64 ((wrap64 (x1_1 + 1)) + 1)) + 1)) + 1)) (wrap64 (x5_1 + 1))))) = some (r1, r2) := by first | (rw [hy102]; with_reducible exact H) | (have H2_ := (Option.bind_some _ _).symm.trans H; rw [hy102]; with_reducible exact H2_) | (have H2_ := (Option.bind_some _ _).symm.trans H; with_reducible exact H2_) | with_reducible exact H | (rw [hy102]; exact H) | exact H
     have Ny102 := Aside0.mk hy102
     clear hy102
     obtain ⟨y103, hy103⟩ : ∃ y_ : List (S62), y_ = (y102.set (x5_1 : Int).toNat (⟨(rd_T62 y102 x5_1).f0, wrap64 (x1_1 + 1), (rd_T62 y102 x5_1).f2, (rd_T62 y102 x5_1).f3⟩ : S62)) := ⟨_, rfl⟩
     replace H : ((some (y103.set (x5_1 : Int).toNat (⟨(rd_T62 y103 x5_1).f0, (rd_T62 y103 x5_1).f1, wrap64 ((wrap64 (x1_1 + 1)) + 1), (rd_T62 y103 x5_1).f3⟩ : S62) : List (S62))).bind fun y104 => (laws_markDEntryS.l0 k1 (y104.set (x5_1 : Int).toNat (⟨(rd_T62 y104 x5_1).f0, (rd_T62 y104 x5_1).f1, (rd_T62 y104 x5_1).f2, ((Int.tmod (wrap64 ((wrap64 ((wrap64 (x1_1 + 1)) + 1)) + 1)) 3) == 0)⟩ : S62)) (wrap64 ((wrap64 ((wrap64 ((wrap64 (x1_1 + 1)) + 1)) + 1)) + 1)) (wrap64 (x5_1 + 1)))) = some (r1, r2) := by first | (rw [hy103]; with_reducible exact H) | (have H2_ := (Option.bind_some _ _).symm.trans H; rw [hy103]; with_reducible exact H2_) | (have H2_ := (Option.bind_some _ _).symm.trans H; with_reducible exact H2_) | with_reducible exact H | (rw [hy103]; exact H) | exact H
     have Ny103 := Aside0.mk hy103
     clear hy103
     obtain ⟨y104, hy104⟩ : ∃ y_ : List (S62), y_ = (y103.set (x5_1 : Int).toNat (⟨(rd_T62 y103 x5_1).f0, (rd_T62 y103 x5_1).f1, wrap64 ((wrap64 (x1_1 + 1)) + 1), (rd_T62 y103 x5_1).f3⟩ : S62)) := ⟨_, rfl⟩
     replace H : (laws_markDEntryS.l0 k1 (y104.set (x5_1 : Int).toNat (⟨(rd_T62 y104 x5_1).f0, (rd_T62 y104 x5_1).f1, (rd_T62 y104 x5_1).f2, ((Int.tmod (wrap64 ((wrap64 ((wrap64 (x1_1 + 1)) + 1)) + 1)) 3) == 0)⟩ : S62)) (wrap64 ((wrap64 ((wrap64 ((wrap64 (x1_1 + 1)) + 1)) + 1)) + 1)) (wrap64 (x5_1 + 1))) = some (r1, r2) := by first | (rw [hy104]; with_reducible exact H) | (have H2_ := (Option.bind_some _ _).symm.trans H; rw [hy104]; with_reducible exact H2_) | (have H2_ := (Option.bind_some _ _).symm.trans H; with_reducible exact H2_) | with_reducible exact H | (rw [hy104]; exact H) | exact H
     have Ny104 := Aside0.mk hy104
     clear hy104
     obtain ⟨y105, hy105⟩ : ∃ y_ : List (S62), y_ = (y104.set (x5_1 : Int).toNat (⟨(rd_T62 y104 x5_1).f0, (rd_T62 y104 x5_1).f1, (rd_T62 y104 x5_1).f2, ((Int.tmod (wrap64 ((wrap64 ((wrap64 (x1_1 + 1)) + 1)) + 1)) 3) == 0)⟩ : S62)) := ⟨_, rfl⟩
     replace H : (laws_markDEntryS.l0 k1 y105 (wrap64 ((wrap64 ((wrap64 ((wrap64 (x1_1 + 1)) + 1)) + 1)) + 1)) (wrap64 (x5_1 + 1))) = some (r1, r2) := by first | (rw [hy105]; with_reducible exact H) | (have H2_ := (Option.bind_some _ _).symm.trans H; rw [hy105]; with_reducible exact H2_) | (have H2_ := (Option.bind_some _ _).symm.trans H; with_reducible exact H2_) | with_reducible exact H | (rw [hy105]; exact H) | exact H
     have Ny105 := Aside0.mk hy105
     clear hy105
     have H' := Aside0.mk H
     clear H
     obtain ⟨Ao9, co9, eo9⟩ := Kd.R_slice HO_0.out
     subst eo9
     have p5 : 0 ≤ (x5_1 : Int) := of_decide_eq_true qdc1_6
     have q5 : (x5_1 : Int) < ((x0_1.length : Int) : Int) := of_decide_eq_true qdc1_6
     obtain ⟨go5, co5, eo5, gb5, gl5, cl5, HG5⟩ := Kd.R_form HO_0.out (by omega)
     (first | cases eo5 | (injection eo5 with ea_ en_ ec_; (first | subst ea_ | (injection ea_ with ea_; subst ea_)); subst ec_; clear en_))
     have GB5 := Aside0.mk gb5
     have GG5 := Aside0.mk HG5
     clear gb5 gl5 HG5
     have HMgo5 := Aside0.mk (show (P0_ go5 ∨ w.heap.size ≤ go5) from (HO_0.out.1 _ rfl))
     obtain ⟨ce5, hcl5, hM5, hcc5, hfr5⟩ := Kd.R_elem HO_0.out z62 (x5_1 : Int) p5 q5
     obtain rfl := k62_openM hM5
     have hx5_0 : wr.cell? ⟨go5, (x5_1 : Int).toNat * 4, none⟩ = some (.int .u64 ((rd_T62 x0_1 x5_1).f0)) := hcc5 0 _ rfl
     have hx5_1 : wr.cell? ⟨go5, (x5_1 : Int).toNat * 4 + 1, none⟩ = some (.int .i64 ((rd_T62 x0_1 x5_1).f1)) := hcc5 1 _ rfl
     have hx5_2 : wr.cell? ⟨go5, (x5_1 : Int).toNat * 4 + 2, none⟩ = some (.int .i64 ((rd_T62 x0_1 x5_1).f2)) := hcc5 2 _ rfl
     have hx5_3 : wr.cell? ⟨go5, (x5_1 : Int).toNat * 4 + 3, none⟩ = some (.bool ((rd_T62 x0_1 x5_1).f3)) := hcc5 3 _ rfl
     have hf5_0 : wr.frozen? ⟨go5, (x5_1 : Int).toNat * 4, none⟩ = false := hfr5 0
     have hf5_1 : wr.frozen? ⟨go5, (x5_1 : Int).toNat * 4 + 1, none⟩ = false := hfr5 1
     have hf5_2 : wr.frozen? ⟨go5, (x5_1 : Int).toNat * 4 + 2, none⟩ = false := hfr5 2
     have hf5_3 : wr.frozen? ⟨go5, (x5_1 : Int).toNat * 4 + 3, none⟩ = false := hfr5 3
     clear hcl5 hcc5 hfr5 hM5
     replace p5 := eq_true p5
     replace q5 := eq_true q5
     have HX10 := Aside0.mk (show Kd.R k62 62 wr w0.heap.size (fun k_ => (P0_ k_ ∨ w.heap.size ≤ k_)) (.slice (some ⟨go5, 0, none⟩) x0_1.length co9) x0_1 from (qdc1_3 HO_0))
     obtain ⟨ce10, hcl10, hM10, hcc10, hfr10⟩ := Kd.R_elem HX10.out z62 (x5_1 : Int) (of_decide_eq_true qdc1_6) (by have h_ : (x5_1 : Int) < ((x0_1.length : Int) : Int) := of_decide_eq_true qdc1_6; first | exact h_ | (have e_ := (Kd.R_reads' HO_0.out).1; omega) | simpa using h_)
     obtain rfl := k62_openM hM10
     have HP10 := Kd.R_seg HX10.out (x5_1 : Int) (of_decide_eq_true qdc1_6) (by have h_ : (x5_1 : Int) < ((x0_1.length : Int) : Int) := of_decide_eq_true qdc1_6; first | exact h_ | (have e_ := (Kd.R_reads' HO_0.out).1; omega) | simpa using h_) (seg := [.int .u64 (IntKind.u64.wrap (x1_1))]) (j := 0) hcl10 hcc10 (show 1 ≤ 4 from by decide) (x' := (⟨IntKind.u64.wrap (x1_1), (rd_T62 x0_1 x5_1).f1, (rd_T62 x0_1 x5_1).f2, (rd_T62 x0_1 x5_1).f3⟩ : S62)) (k62_mkM _ _ _ (⟨IntKind.u64.wrap (x1_1), (rd_T62 x0_1 x5_1).f1, (rd_T62 x0_1 x5_1).f2, (rd_T62 x0_1 x5_1).f3⟩ : S62) ) (fun _ hk => hk)
     have hx10_0 := hcc10 0 _ rfl
     (try simp only [show (k62).sz = 4 from rfl, Nat.mul_one, Nat.add_zero] at hx10_0)
     have hf10_0 := hfr10 0
     (try simp only [show (k62).sz = 4 from rfl, Nat.mul_one, Nat.add_zero] at hf10_0)
     clear hcl10 hcc10 hfr10 hM10
     go_wp2_with (first | ((with_reducible refine gate_store (t := 35) (p := 17) rfl ?_); refine store_event (t := 35) (p := 17) (v := ?vo_w11) (w1 := (wr.setCell ⟨go5, (x5_1 : Int).toNat * 4, none⟩ (.int .u64 (IntKind.u64.wrap (x1_1))))) ?hg ?ho ?hn ?hr ?_; (case ho => rfl); (case hg => rfl); (case hn => rfl); (case hr => exact qdc1_11); intro w11 hw; have hg : wr.grownBy w11 (some go5) := (by rw [hw]; exact HP10.2); have hp_ : Kd.R k62 62 w11 w0.heap.size (fun k_ => (P0_ k_ ∨ w.heap.size ≤ k_)) (.slice (some ⟨go5, 0, none⟩) x0_1.length co9) y102 := (by rw [hw, Ny102.out]; exact HP10.1); clear HP10; have n0_ := Aside0.mk (hp_); have n1_ := Aside0.mk ((by rw [hw]; exact below_set (HB.out) GB5.out : Below w0.heap.size w0 w11)); have n2_ := Aside0.mk (Kept.of_grown (S := (fun k_ => P0_ k_)) hg (qdc1_12 HK) (fun k_ e_ => (HO_0.out.1 k_ e_))); clear HO_0; clear HB; clear HK; have HO_0 := n0_; have HB := n1_; have HK := n2_; clear n0_ n1_ n2_; clear hg hw hp_; have p6 : 0 ≤ (x5_1 : Int) := of_decide_eq_true qdc1_6; have q6 : (x5_1 : Int) < ((x0_1.length : Int) : Int) := of_decide_eq_true qdc1_6; obtain ⟨ce6, hcl6, hM6, hcc6, hfr6⟩ := Kd.R_elem HO_0.out z62 (x5_1 : Int) p6 q6; obtain rfl := k62_openM hM6; have hx6_0 : w11.cell? ⟨go5, (x5_1 : Int).toNat * 4, none⟩ = some (.int .u64 ((rd_T62 y102 x5_1).f0)) := hcc6 0 _ rfl; have hx6_1 : w11.cell? ⟨go5, (x5_1 : Int).toNat * 4 + 1, none⟩ = some (.int .i64 ((rd_T62 y102 x5_1).f1)) := hcc6 1 _ rfl; have hx6_2 : w11.cell? ⟨go5, (x5_1 : Int).toNat * 4 + 2, none⟩ = some (.int .i64 ((rd_T62 y102 x5_1).f2)) := hcc6 2 _ rfl; have hx6_3 : w11.cell? ⟨go5, (x5_1 : Int).toNat * 4 + 3, none⟩ = some (.bool ((rd_T62 y102 x5_1).f3)) := hcc6 3 _ rfl; have hf6_0 : w11.frozen? ⟨go5, (x5_1 : Int).toNat * 4, none⟩ = false := hfr6 0; have hf6_1 : w11.frozen? ⟨go5, (x5_1 : Int).toNat * 4 + 1, none⟩ = false := hfr6 1; have hf6_2 : w11.frozen? ⟨go5, (x5_1 : Int).toNat * 4 + 2, none⟩ = false := hfr6 2; have hf6_3 : w11.frozen? ⟨go5, (x5_1 : Int).toNat * 4 + 3, none⟩ = false := hfr6 3; clear hcl6 hcc6 hfr6 hM6; replace p6 := eq_true p6; replace q6 := eq_true q6; have HX12 := Aside0.mk (show Kd.R k62 62 w11 w0.heap.size (fun k_ => (P0_ k_ ∨ w.heap.size ≤ k_)) (.slice (some ⟨go5, 0, none⟩) x0_1.length co9) y102 from (qdc1_3 HO_0)); obtain ⟨ce12, hcl12, hM12, hcc12, hfr12⟩ := Kd.R_elem HX12.out z62 (x5_1 : Int) (of_decide_eq_true qdc1_6) (by have h_ : (x5_1 : Int) < ((x0_1.length : Int) : Int) := of_decide_eq_true qdc1_6; first | exact h_ | (have e_ := (Kd.R_reads' HO_0.out).1; omega) | simpa using h_); obtain rfl := k62_openM hM12; have HP12 := Kd.R_seg HX12.out (x5_1 : Int) (of_decide_eq_true qdc1_6) (by have h_ : (x5_1 : Int) < ((x0_1.length : Int) : Int) := of_decide_eq_true qdc1_6; first | exact h_ | (have e_ := (Kd.R_reads' HO_0.out).1; omega) | simpa using h_) (seg := [.int .i64 (wrap64 (x1_1 + 1))]) (j := 1) hcl12 hcc12 (show 2 ≤ 4 from by decide) (x' := (⟨(rd_T62 y102 x5_1).f0, wrap64 (x1_1 + 1), (rd_T62 y102 x5_1).f2, (rd_T62 y102 x5_1).f3⟩ : S62)) (k62_mkM _ _ _ (⟨(rd_T62 y102 x5_1).f0, wrap64 (x1_1 + 1), (rd_T62 y102 x5_1).f2, (rd_T62 y102 x5_1).f3⟩ : S62) ) (fun _ hk => hk); have hx12_1 := hcc12 1 _ rfl; (try simp only [show (k62).sz = 4 from rfl, Nat.mul_one, Nat.add_zero] at hx12_1); have hf12_1 := hfr12 1; (try simp only [show (k62).sz = 4 from rfl, Nat.mul_one, Nat.add_zero] at hf12_1); clear hcl12 hcc12 hfr12 hM12) | ((with_reducible refine gate_store (t := 2) (p := 24) rfl ?_); refine store_event (t := 2) (p := 24) (v := ?vo_w13) (w1 := (w11.setCell ⟨go5, (x5_1 : Int).toNat * 4 + 1, none⟩ (.int .i64 (wrap64 (x1_1 + 1))))) ?hg ?ho ?hn ?hr ?_; (case ho => rfl); (case hg => rfl); (case hn => rfl); (case hr => exact qdc1_11); intro w13 hw; have hg : w11.grownBy w13 (some go5) := (by rw [hw]; exact HP12.2); have hp_ : Kd.R k62 62 w13 w0.heap.size (fun k_ => (P0_ k_ ∨ w.heap.size ≤ k_)) (.slice (some ⟨go5, 0, none⟩) x0_1.length co9) y103 := (by rw [hw, Ny103.out]; exact HP12.1); clear HP12; have n0_ := Aside0.mk (hp_); have n1_ := Aside0.mk ((by rw [hw]; exact below_set (HB.out) GB5.out : Below w0.heap.size w0 w13)); have n2_ := Aside0.mk (Kept.of_grown (S := (fun k_ => P0_ k_)) hg (qdc1_12 HK) (fun k_ e_ => (HO_0.out.1 k_ e_))); clear HO_0; clear HB; clear HK; have HO_0 := n0_; have HB := n1_; have HK := n2_; clear n0_ n1_ n2_; clear hg hw hp_; have p7 : 0 ≤ (x5_1 : Int) := of_decide_eq_true qdc1_6; have q7 : (x5_1 : Int) < ((x0_1.length : Int) : Int) := of_decide_eq_true qdc1_6; obtain ⟨ce7, hcl7, hM7, hcc7, hfr7⟩ := Kd.R_elem HO_0.out z62 (x5_1 : Int) p7 q7; obtain rfl := k62_openM hM7; have hx7_0 : w13.cell? ⟨go5, (x5_1 : Int).toNat * 4, none⟩ = some (.int .u64 ((rd_T62 y103 x5_1).f0)) := hcc7 0 _ rfl; have hx7_1 : w13.cell? ⟨go5, (x5_1 : Int).toNat * 4 + 1, none⟩ = some (.int .i64 ((rd_T62 y103 x5_1).f1)) := hcc7 1 _ rfl; have hx7_2 : w13.cell? ⟨go5, (x5_1 : Int).toNat * 4 + 2, none⟩ = some (.int .i64 ((rd_T62 y103 x5_1).f2)) := hcc7 2 _ rfl; have hx7_3 : w13.cell? ⟨go5, (x5_1 : Int).toNat * 4 + 3, none⟩ = some (.bool ((rd_T62 y103 x5_1).f3)) := hcc7 3 _ rfl; have hf7_0 : w13.frozen? ⟨go5, (x5_1 : Int).toNat * 4, none⟩ = false := hfr7 0; have hf7_1 : w13.frozen? ⟨go5, (x5_1 : Int).toNat * 4 + 1, none⟩ = false := hfr7 1; have hf7_2 : w13.frozen? ⟨go5, (x5_1 : Int).toNat * 4 + 2, none⟩ = false := hfr7 2; have hf7_3 : w13.frozen? ⟨go5, (x5_1 : Int).toNat * 4 + 3, none⟩ = false := hfr7 3; clear hcl7 hcc7 hfr7 hM7; replace p7 := eq_true p7; replace q7 := eq_true q7; have HX14 := Aside0.mk (show Kd.R k62 62 w13 w0.heap.size (fun k_ => (P0_ k_ ∨ w.heap.size ≤ k_)) (.slice (some ⟨go5, 0, none⟩) x0_1.length co9) y103 from (qdc1_3 HO_0)); obtain ⟨ce14, hcl14, hM14, hcc14, hfr14⟩ := Kd.R_elem HX14.out z62 (x5_1 : Int) (of_decide_eq_true qdc1_6) (by have h_ : (x5_1 : Int) < ((x0_1.length : Int) : Int) := of_decide_eq_true qdc1_6; first | exact h_ | (have e_ := (Kd.R_reads' HO_0.out).1; omega) | simpa using h_); obtain rfl := k62_openM hM14; have HP14 := Kd.R_seg HX14.out (x5_1 : Int) (of_decide_eq_true qdc1_6) (by have h_ : (x5_1 : Int) < ((x0_1.length : Int) : Int) := of_decide_eq_true qdc1_6; first | exact h_ | (have e_ := (Kd.R_reads' HO_0.out).1; omega) | simpa using h_) (seg := [.int .i64 (wrap64 ((wrap64 (x1_1 + 1)) + 1))]) (j := 2) hcl14 hcc14 (show 3 ≤ 4 from by decide) (x' := (⟨(rd_T62 y103 x5_1).f0, (rd_T62 y103 x5_1).f1, wrap64 ((wrap64 (x1_1 + 1)) + 1), (rd_T62 y103 x5_1).f3⟩ : S62)) (k62_mkM _ _ _ (⟨(rd_T62 y103 x5_1).f0, (rd_T62 y103 x5_1).f1, wrap64 ((wrap64 (x1_1 + 1)) + 1), (rd_T62 y103 x5_1).f3⟩ : S62) ) (fun _ hk => hk); have hx14_2 := hcc14 2 _ rfl; (try simp only [show (k62).sz = 4 from rfl, Nat.mul_one, Nat.add_zero] at hx14_2); have hf14_2 := hfr14 2; (try simp only [show (k62).sz = 4 from rfl, Nat.mul_one, Nat.add_zero] at hf14_2); clear hcl14 hcc14 hfr14 hM14) | ((with_reducible refine gate_store (t := 2) (p := 31) rfl ?_); refine store_event (t := 2) (p := 31) (v := ?vo_w15) (w1 := (w13.setCell ⟨go5, (x5_1 : Int).toNat * 4 + 2, none⟩ (.int .i64 (wrap64 ((wrap64 (x1_1 + 1)) + 1))))) ?hg ?ho ?hn ?hr ?_; (case ho => rfl); (case hg => rfl); (case hn => rfl); (case hr => exact qdc1_11); intro w15 hw; have hg : w13.grownBy w15 (some go5) := (by rw [hw]; exact HP14.2); have hp_ : Kd.R k62 62 w15 w0.heap.size (fun k_ => (P0_ k_ ∨ w.heap.size ≤ k_)) (.slice (some ⟨go5, 0, none⟩) x0_1.length co9) y104 := (by rw [hw, Ny104.out]; exact HP14.1); clear HP14; have n0_ := Aside0.mk (hp_); have n1_ := Aside0.mk ((by rw [hw]; exact below_set (HB.out) GB5.out : Below w0.heap.size w0 w15)); have n2_ := Aside0.mk (Kept.of_grown (S := (fun k_ => P0_ k_)) hg (qdc1_12 HK) (fun k_ e_ => (HO_0.out.1 k_ e_))); clear HO_0; clear HB; clear HK; have HO_0 := n0_; have HB := n1_; have HK := n2_; clear n0_ n1_ n2_; clear hg hw hp_; have p8 : 0 ≤ (x5_1 : Int) := of_decide_eq_true qdc1_6; have q8 : (x5_1 : Int) < ((x0_1.length : Int) : Int) := of_decide_eq_true qdc1_6; obtain ⟨ce8, hcl8, hM8, hcc8, hfr8⟩ := Kd.R_elem HO_0.out z62 (x5_1 : Int) p8 q8; obtain rfl := k62_openM hM8; have hx8_0 : w15.cell? ⟨go5, (x5_1 : Int).toNat * 4, none⟩ = some (.int .u64 ((rd_T62 y104 x5_1).f0)) := hcc8 0 _ rfl; have hx8_1 : w15.cell? ⟨go5, (x5_1 : Int).toNat * 4 + 1, none⟩ = some (.int .i64 ((rd_T62 y104 x5_1).f1)) := hcc8 1 _ rfl; have hx8_2 : w15.cell? ⟨go5, (x5_1 : Int).toNat * 4 + 2, none⟩ = some (.int .i64 ((rd_T62 y104 x5_1).f2)) := hcc8 2 _ rfl; have hx8_3 : w15.cell? ⟨go5, (x5_1 : Int).toNat * 4 + 3, none⟩ = some (.bool ((rd_T62 y104 x5_1).f3)) := hcc8 3 _ rfl; have hf8_0 : w15.frozen? ⟨go5, (x5_1 : Int).toNat * 4, none⟩ = false := hfr8 0; have hf8_1 : w15.frozen? ⟨go5, (x5_1 : Int).toNat * 4 + 1, none⟩ = false := hfr8 1; have hf8_2 : w15.frozen? ⟨go5, (x5_1 : Int).toNat * 4 + 2, none⟩ = false := hfr8 2; have hf8_3 : w15.frozen? ⟨go5, (x5_1 : Int).toNat * 4 + 3, none⟩ = false := hfr8 3; clear hcl8 hcc8 hfr8 hM8; replace p8 := eq_true p8; replace q8 := eq_true q8; have HX16 := Aside0.mk (show Kd.R k62 62 w15 w0.heap.size (fun k_ => (P0_ k_ ∨ w.heap.size ≤ k_)) (.slice (some ⟨go5, 0, none⟩) x0_1.length co9) y104 from (qdc1_3 HO_0)); obtain ⟨ce16, hcl16, hM16, hcc16, hfr16⟩ := Kd.R_elem HX16.out z62 (x5_1 : Int) (of_decide_eq_true qdc1_6) (by have h_ : (x5_1 : Int) < ((x0_1.length : Int) : Int) := of_decide_eq_true qdc1_6; first | exact h_ | (have e_ := (Kd.R_reads' HO_0.out).1; omega) | simpa using h_); obtain rfl := k62_openM hM16; have HP16 := Kd.R_seg HX16.out (x5_1 : Int) (of_decide_eq_true qdc1_6) (by have h_ : (x5_1 : Int) < ((x0_1.length : Int) : Int) := of_decide_eq_true qdc1_6; first | exact h_ | (have e_ := (Kd.R_reads' HO_0.out).1; omega) | simpa using h_) (seg := [.bool ((Int.tmod (wrap64 ((wrap64 ((wrap64 (x1_1 + 1)) + 1)) + 1)) 3) == 0)]) (j := 3) hcl16 hcc16 (show 4 ≤ 4 from by decide) (x' := (⟨(rd_T62 y104 x5_1).f0, (rd_T62 y104 x5_1).f1, (rd_T62 y104 x5_1).f2, ((Int.tmod (wrap64 ((wrap64 ((wrap64 (x1_1 + 1)) + 1)) + 1)) 3) == 0)⟩ : S62)) (k62_mkM _ _ _ (⟨(rd_T62 y104 x5_1).f0, (rd_T62 y104 x5_1).f1, (rd_T62 y104 x5_1).f2, ((Int.tmod (wrap64 ((wrap64 ((wrap64 (x1_1 + 1)) + 1)) + 1)) 3) == 0)⟩ : S62) ) (fun _ hk => hk); have hx16_3 := hcc16 3 _ rfl; (try simp only [show (k62).sz = 4 from rfl, Nat.mul_one, Nat.add_zero] at hx16_3); have hf16_3 := hfr16 3; (try simp only [show (k62).sz = 4 from rfl, Nat.mul_one, Nat.add_zero] at hf16_3); clear hcl16 hcc16 hfr16 hM16) | ((with_reducible refine gate_store (t := 4) (p := 40) rfl ?_); refine store_event (t := 4) (p := 40) (v := ?vo_w17) (w1 := (w15.setCell ⟨go5, (x5_1 : Int).toNat * 4 + 3, none⟩ (.bool ((Int.tmod (wrap64 ((wrap64 ((wrap64 (x1_1 + 1)) + 1)) + 1)) 3) == 0)))) ?hg ?ho ?hn ?hr ?_; (case ho => rfl); (case hg => rfl); (case hn => rfl); (case hr => exact qdc1_11); intro w17 hw; have hg : w15.grownBy w17 (some go5) := (by rw [hw]; exact HP16.2); have hp_ : Kd.R k62 62 w17 w0.heap.size (fun k_ => (P0_ k_ ∨ w.heap.size ≤ k_)) (.slice (some ⟨go5, 0, none⟩) x0_1.length co9) y105 := (by rw [hw, Ny105.out]; exact HP16.1); clear HP16; have n0_ := Aside0.mk (hp_); have n1_ := Aside0.mk ((by rw [hw]; exact below_set (HB.out) GB5.out : Below w0.heap.size w0 w17)); have n2_ := Aside0.mk (Kept.of_grown (S := (fun k_ => P0_ k_)) hg (qdc1_12 HK) (fun k_ e_ => (HO_0.out.1 k_ e_))); clear HO_0; clear HB; clear HK; have HO_0 := n0_; have HB := n1_; have HK := n2_; clear n0_ n1_ n2_; clear hg hw hp_))
     go_roundg k1
     case measure => have := HK1.out; omega
     case rel => exact ⟨(y105), (wrap64 ((wrap64 ((wrap64 ((wrap64 (x1_1 + 1)) + 1)) + 1)) + 1)), (wrap64 (x5_1 + 1)), qdc1_14, qdc1_14, H', ⟨by have := HK1.out; omega⟩, ⟨by (with_reducible repeat (first | apply Kd.R_alloc | apply Kd.R_drewN | apply Kd.R_drew)); exact HO_0.out⟩, ⟨by repeat (first | (with_reducible first | exact HK.out | apply Kept.alloc | apply Kept.drewN | apply Kept.drew) | exact HK.out)⟩, ⟨by repeat (first | (with_reducible first | exact HB.out | apply below_alloc | apply pw_below_drewN | apply below_drew1) | exact HB.out)⟩⟩
    ·rw [if_neg c4] at H
     exact absurd H (by simp)
   ·rw [if_neg c3] at H
    have c3b0 : decide (x5_1 < (x0_1.length : Int)) = false := decide_eq_false c3
    clear c3
    simp only [Option.some.injEq, Prod.mk.injEq] at H
    obtain ⟨rfl, rfl⟩ := H
    obtain ⟨Ao18, co18, eo18⟩ := Kd.R_slice HO_0.out
    subst eo18
    go_wp2
    go_ret
    exact ⟨by first | rfl | (simp [errW_none, errW_some] <;> rfl) | (simp [*, errW_none, errW_some] <;> rfl), by (with_reducible repeat (first | apply Kd.R_alloc | apply Kd.R_drewN | apply Kd.R_drew)); exact HO_0.out, by repeat (first | (with_reducible first | exact HB.out | apply below_alloc | apply pw_below_drewN | apply below_drew1) | exact HB.out), by repeat (first | (with_reducible first | exact HK.out | apply Kept.alloc | apply Kept.drewN | apply Kept.drew) | exact HK.out)⟩

/-! ### laws_markDict: function 14 -/
def laws_markDict.f (k : Nat) (l0_0 : List Int) (l0_1 : List (S62)) (a0_2 : Int) (a1 : Int) : Option (Int × List Int × (List (S62))) := (laws_markInt64S.f k l0_0 a1).bind fun bt107 => ((laws_markDEntryS.f k l0_1 bt107.1).bind fun bt109 => (some (bt109.1, bt107.2, bt109.2)))
theorem laws_markDict.mono : ∀ a0 a1 a2 a3 k, LeO (laws_markDict.f k a0 a1 a2 a3) (laws_markDict.f (k + 1) a0 a1 a2 a3) := by
 intro a0 a1 a2 a3 k
 unfold laws_markDict.f
 repeat' first
   | (with_reducible exact laws_markDEntryS.mono _ _ _)
   | (with_reducible exact laws_markInt64S.mono _ _ _)
   | (with_reducible exact LeO.refl _)
   | (with_reducible exact LeO.none _)
   | (with_reducible refine LeO.ite ?_ ?_)
   | (with_reducible refine LeO.bind ?_ (fun _ => ?_))
   | exact laws_markDEntryS.mono _ _ _
   | exact laws_markInt64S.mono _ _ _
   | exact LeO.none _
   | refine LeO.ite ?_ ?_
   | refine LeO.bind ?_ (fun _ => ?_)
set_option maxHeartbeats 8000000 in
set_option maxRecDepth 100000 in
theorem laws_markDict.calls (k : Nat) (P0_0_ : Nat → Prop) (u9000_ : Value) (l0_0 : List Int) (P0_1_ : Nat → Prop) (u9001_ : Value) (l0_1 : List (S62)) (a0_2 : Int) (a1 : Int) (r1 : Int) (r2 : List Int) (r3 : List (S62)) (w0 w : World) (hB : Below w0.heap.size w0 w) (ho0_0 : Kd.R (Kd.int .i64) 2 w w0.heap.size P0_0_ u9000_ l0_0) (ho0_1 : Kd.R k62 62 w w0.heap.size P0_1_ u9001_ l0_1) (h : laws_markDict.f k l0_0 l0_1 a0_2 a1 = some (r1, r2, r3)) :
  Calls Try.prog 14 #[.agg #[u9000_, u9001_, .int .i64 a0_2], .int .i64 a1] w fun e w' => e = .returned (.int .i64 r1) ∧ Kd.R (Kd.int .i64) 2 w' w0.heap.size (fun k_ => ((P0_0_ k_ ∨ P0_1_ k_) ∨ w.heap.size ≤ k_)) u9000_ r2 ∧ Kd.R k62 62 w' w0.heap.size (fun k_ => ((P0_0_ k_ ∨ P0_1_ k_) ∨ w.heap.size ≤ k_)) u9001_ r3 ∧ Below w0.heap.size w0 w' ∧ Kept w w' (fun k_ => P0_0_ k_ ∨ P0_1_ k_) := by
 have hu25 := Try.underlying25
 have HO0_0 := Aside0.mk (show Kd.R (Kd.int .i64) 2 w w0.heap.size (fun k_ => ((P0_0_ k_ ∨ P0_1_ k_) ∨ w.heap.size ≤ k_)) u9000_ l0_0 from Kd.R_mono ho0_0 (fun k_ hk => (.inl (.inl hk))))
 have HO0_1 := Aside0.mk (show Kd.R k62 62 w w0.heap.size (fun k_ => ((P0_0_ k_ ∨ P0_1_ k_) ∨ w.heap.size ≤ k_)) u9001_ l0_1 from Kd.R_mono ho0_1 (fun k_ hk => (.inl (.inr hk))))
 have HK := Aside0.mk (Kept.refl w (fun k_ => P0_0_ k_ ∨ P0_1_ k_))
 have HW0 := Aside0.mk hB.size
 have HB := Aside0.mk hB
 clear hB
 have H : ((laws_markInt64S.f k l0_0 a1).bind fun bt107 => ((laws_markDEntryS.f k l0_1 bt107.1).bind fun bt109 => (some (bt109.1, bt107.2, bt109.2)))) = some (r1, r2, r3) := h
 clear h
 replace H := Option.bind_eq_some_iff.mp H
 obtain ⟨⟨t107, t108⟩, A30, H⟩ := H
 replace H : ((laws_markDEntryS.f k l0_1 t107).bind fun bt109 => (some (bt109.1, t108, bt109.2))) = some (r1, r2, r3) := H
 have A3 := Aside0.mk A30
 clear A30
 replace H := Option.bind_eq_some_iff.mp H
 obtain ⟨⟨t109, t110⟩, A40, H⟩ := H
 replace H : (some (t109, t108, t110)) = some (r1, r2, r3) := H
 have A4 := Aside0.mk A40
 clear A40
 simp only [Option.some.injEq, Prod.mk.injEq] at H
 obtain ⟨rfl, rfl, rfl⟩ := H
 obtain ⟨Ao5, co5, eo5⟩ := Kd.R_slice HO0_0.out
 subst eo5
 obtain ⟨Ao6, co6, eo6⟩ := Kd.R_slice HO0_1.out
 subst eo6
 go_enter Try.func14, Try.ntmps14
 go_wp2_with (first | ((with_reducible refine gate_dst (N := 2) rfl ?_); refine box_event ?hg (N := 2) ?hd (cs := #[.slice Ao5 l0_0.length co5, .slice Ao6 l0_1.length co6, .int .i64 a0_2]) (t := 25) ?hr ?_; (case hd => rfl); (case hg => rfl); (case hr => exact qdc1_11); intro gb106 hg w7 hbox hb; have n0_ := Aside0.mk (Kd.R_below (qdc1_3 HO0_0) hb); have n1_ := Aside0.mk (Kd.R_below (qdc1_3 HO0_1) hb); have n2_ := Aside0.mk (Kept.below (S := (fun k_ => P0_0_ k_ ∨ P0_1_ k_)) (qdc1_12 HK) hb); have n3_ := Aside0.mk (below_step (qdc1_5 HB) hb); have n4_ := Aside0.mk (hbox); have n5_ := Aside0.mk ((by rw [hg]; exact (by first | exact HK.out.1 | exact (show Kept w _ (fun k_ => P0_0_ k_ ∨ P0_1_ k_) from by repeat (first | (with_reducible first | exact HK.out | apply Kept.alloc | apply Kept.drewN | apply Kept.drew) | exact HK.out)).1) : w.heap.size ≤ gb106)); have n6_ := Aside0.mk ((by rw [hg]; exact (below_size (qdc1_5 HB)) : w0.heap.size ≤ gb106)); clear HO0_0; clear HO0_1; clear HK; clear HB; have HO0_0 := n0_; have HO0_1 := n1_; have HK := n2_; have HB := n3_; have BK106 := n4_; have GW106 := n5_; have GE106 := n6_; clear n0_ n1_ n2_ n3_ n4_ n5_ n6_; clear hb hbox hg; have hcz8_0 : w7.cell? ⟨gb106, 0, none⟩ = some (.slice Ao5 l0_0.length co5) := (blk_cell BK106.out 0).trans rfl; have hcz8_1 : w7.cell? ⟨gb106, 1, none⟩ = some (.slice Ao6 l0_1.length co6) := (blk_cell BK106.out 1).trans rfl; have hcz8_2 : w7.cell? ⟨gb106, 2, none⟩ = some (.int .i64 a0_2) := (blk_cell BK106.out 2).trans rfl; have hfz8_0 := blk_frozen BK106.out 0; have hfz8_1 := blk_frozen BK106.out 1; have hfz8_2 := blk_frozen BK106.out 2) | ((with_reducible refine gate_callee (f := 31) rfl ?_); refine goesL_ (some 8) rfl rfl Try.func31 qdc1_15 rfl #[.slice Ao5 l0_0.length co5, .int .i64 a1] rfl qdc1_10 ?_; (with_reducible refine (laws_markInt64S.calls k (fun k_ => some k_ = (.slice Ao5 l0_0.length co5 : Value).ownBlock) (.slice Ao5 l0_0.length co5) l0_0 a1 t107 t108 w0 _ ?side1 ?side2 A3.out).mono ?_); (case side1 => exact (qdc1_4 HB GE106)); (case side2 => exact Kd.R_tight rfl HO0_0.out); rintro e w9 ⟨rfl, hy0, hb, hkp⟩; refine ⟨_, rfl, ?_⟩; have n0_ := Aside0.mk (Kd.R_reok rfl hy0 (fun k_ e_ => HO0_0.out.1 k_ e_)); have n1_ := Aside0.mk (Kd.R_mono (ok' := fun k_ => ((P0_0_ k_ ∨ P0_1_ k_) ∨ w.heap.size ≤ k_)) (Kd.R_keptB ((Kd.R_apart' HO0_1.out (Kd.R_typed HO0_0.out) qdc1_16)) hkp (fun k_ hk_ hs_ => (hk_.2) hs_)) (fun k_ hk_ => hk_.1.1)); have n2_ := Aside0.mk (blk_kept (qdc1_2 BK106) hkp (fun hs_ => (fun e_ => (Kd.R_ne HO0_0.out BK106.out qdc1_16) e_) hs_)); have n3_ := Aside0.mk (Kept.then_ (S := (fun k_ => P0_0_ k_ ∨ P0_1_ k_)) (by repeat (first | (with_reducible first | exact HK.out | apply Kept.alloc | apply Kept.drewN | apply Kept.drew | refine Kept.setCell ?_ (.inr GW106.out) _) | exact HK.out)) hkp (fun k_ hs_ => (fun e_ => (HO0_0.out.1 k_ e_.symm)) hs_)); have n4_ := Aside0.mk (hb); clear HO0_0; clear HO0_1; clear BK106; clear HK; clear HB; have HO0_0 := n0_; have HO0_1 := n1_; have BK106 := n2_; have HK := n3_; have HB := n4_; clear n0_ n1_ n2_ n3_ n4_; (try clear hb); (try clear hkp); (try clear hy0); have hcz10_0 : w9.cell? ⟨gb106, 0, none⟩ = some (.slice Ao5 l0_0.length co5) := (blk_cell BK106.out 0).trans rfl; have hcz10_1 : w9.cell? ⟨gb106, 1, none⟩ = some (.slice Ao6 l0_1.length co6) := (blk_cell BK106.out 1).trans rfl; have hcz10_2 : w9.cell? ⟨gb106, 2, none⟩ = some (.int .i64 a0_2) := (blk_cell BK106.out 2).trans rfl; have hfz10_0 := blk_frozen BK106.out 0; have hfz10_1 := blk_frozen BK106.out 1; have hfz10_2 := blk_frozen BK106.out 2) | ((with_reducible refine gate_callee (f := 42) rfl ?_); refine goesL_ (some 12) rfl rfl Try.func42 qdc1_15 rfl #[.slice Ao6 l0_1.length co6, .int .i64 t107] rfl qdc1_10 ?_; (with_reducible refine (laws_markDEntryS.calls k (fun k_ => some k_ = (.slice Ao6 l0_1.length co6 : Value).ownBlock) (.slice Ao6 l0_1.length co6) l0_1 t107 t109 t110 w0 _ ?side1 ?side2 A4.out).mono ?_); (case side1 => exact (qdc1_4 HB GE106)); (case side2 => exact Kd.R_tight rfl HO0_1.out); rintro e w11 ⟨rfl, hy0, hb, hkp⟩; refine ⟨_, rfl, ?_⟩; have n0_ := Aside0.mk (Kd.R_mono (ok' := fun k_ => ((P0_0_ k_ ∨ P0_1_ k_) ∨ w.heap.size ≤ k_)) (Kd.R_keptB ((Kd.R_apart' HO0_0.out (Kd.R_typed HO0_1.out) qdc1_16)) hkp (fun k_ hk_ hs_ => (hk_.2) hs_)) (fun k_ hk_ => hk_.1.1)); have n1_ := Aside0.mk (Kd.R_reok rfl hy0 (fun k_ e_ => HO0_1.out.1 k_ e_)); have n2_ := Aside0.mk (blk_kept (qdc1_2 BK106) hkp (fun hs_ => (fun e_ => (Kd.R_ne HO0_1.out BK106.out qdc1_16) e_) hs_)); have n3_ := Aside0.mk (Kept.then_ (S := (fun k_ => P0_0_ k_ ∨ P0_1_ k_)) (by repeat (first | (with_reducible first | exact HK.out | apply Kept.alloc | apply Kept.drewN | apply Kept.drew | refine Kept.setCell ?_ (.inr GW106.out) _) | exact HK.out)) hkp (fun k_ hs_ => (fun e_ => (HO0_1.out.1 k_ e_.symm)) hs_)); have n4_ := Aside0.mk (hb); clear HO0_0; clear HO0_1; clear BK106; clear HK; clear HB; have HO0_0 := n0_; have HO0_1 := n1_; have BK106 := n2_; have HK := n3_; have HB := n4_; clear n0_ n1_ n2_ n3_ n4_; (try clear hb); (try clear hkp); (try clear hy0)))
 go_ret
 exact ⟨by first | rfl | (simp [errW_none, errW_some] <;> rfl) | (simp [*, errW_none, errW_some] <;> rfl), by (with_reducible repeat (first | apply Kd.R_alloc | apply Kd.R_drewN | apply Kd.R_drew)); exact HO0_0.out, by (with_reducible repeat (first | apply Kd.R_alloc | apply Kd.R_drewN | apply Kd.R_drew)); exact HO0_1.out, by repeat (first | (with_reducible first | exact HB.out | apply below_alloc | apply pw_below_drewN | apply below_drew1 | refine below_set ?_ GE106.out) | exact HB.out), by repeat (first | (with_reducible first | exact HK.out | apply Kept.alloc | apply Kept.drewN | apply Kept.drew | refine Kept.setCell ?_ (.inr GW106.out) _) | exact HK.out)⟩

-- GIVEN: function 15 (laws_heldDict)

-- GIVEN: function 19 (laws_szDict)

-- GIVEN: function 21 (laws_toDict)

-- GIVEN: function 20 (spec_DictOk)

-- GIVEN: function 55 (spec_l7Find)

/-! ### spec_l7Copy: function 74 -/
def spec_l7Copy.f (l0_0 : List Int) (l0_1 : List (S62)) (a0_2 : Int) : Option (List Int × (List (S62)) × Int) := (some (([] : List Int) : List Int)).bind fun y113 => (if y113.length + l0_0.length < 17592186044416 then ((some (([] : List (S62)) : List (S62))).bind fun y119 => (if y119.length + l0_1.length < 4398046511104 then (some ((y113 ++ l0_0), (y119 ++ l0_1), a0_2)) else (none))) else (none))
def spec_l7Copy.T1 : Bool × List (List Nat × List Nat) := (true, [([], []), ([], []), ([1], [1]), ([0, 2], [0, 2]), ([], []), ([], []), ([5], [5]), ([4, 6, 3], [4, 6]), ([], []), ([8], [8]), ([3, 7, 9], [3, 7, 9]), ([10, 7, 0, 1, 2, 3, 4, 5, 6, 7, 8, 9, 10], [10])])
def spec_l7Copy.B1 : List Nat := [0, 0, 2, 7, 0, 0, 32, 127, 0, 256, 1023, 2047]
theorem spec_l7Copy.tab1 : rtab .any (opsOf Try.f74 1) = spec_l7Copy.T1 := by kernel_rfl
theorem spec_l7Copy.bits1 : waitsOk spec_l7Copy.T1.2 spec_l7Copy.B1 = true := by kernel_rfl
set_option maxHeartbeats 8000000 in
set_option maxRecDepth 100000 in
theorem spec_l7Copy.calls (A0_0 : Option Addr) (c0_0 : Nat) (l0_0 : List Int) (A0_1 : Option Addr) (c0_1 : Nat) (l0_1 : List (S62)) (a0_2 : Int) (r1 : List Int) (r2 : List (S62)) (r3 : Int) (w : World) (hr0_0 : Kd.C (Kd.int .i64) w A0_0 l0_0.length l0_0) (hc0_0 : l0_0.length ≤ c0_0) (hr0_1 : Kd.C k62 w A0_1 l0_1.length l0_1) (hc0_1 : l0_1.length ≤ c0_1) (h : spec_l7Copy.f l0_0 l0_1 a0_2 = some (r1, r2, r3)) :
  Calls Try.prog 74 #[.agg #[.slice A0_0 l0_0.length c0_0, .slice A0_1 l0_1.length c0_1, .int .i64 a0_2]] w fun e w' => ∃ v0_ v1_ : Value, e = .returned (.agg #[v0_, v1_, .int .i64 r3]) ∧ Kd.R (Kd.int .i64) 2 w' w.heap.size (fun _ => True) v0_ r1 ∧ Kd.R k62 62 w' w.heap.size (fun _ => True) v1_ r2 ∧ Below w.heap.size w w' := by
 have hu25 := Try.underlying25
 have HR0_0 := Aside0.mk hr0_0
 have HC0_0 := Aside0.mk hc0_0
 clear hr0_0 hc0_0
 have HR0_1 := Aside0.mk hr0_1
 have HC0_1 := Aside0.mk hc0_1
 clear hr0_1 hc0_1
 have HB := Aside0.mk (Below.refl w.heap.size w)
 have H : ((some (([] : List Int) : List Int)).bind fun y113 => (if y113.length + l0_0.length < 17592186044416 then ((some (([] : List (S62)) : List (S62))).bind fun y119 => (if y119.length + l0_1.length < 4398046511104 then (some ((y113 ++ l0_0), (y119 ++ l0_1), a0_2)) else (none))) else (none))) = some (r1, r2, r3) := h
 clear h
 obtain ⟨y113, hy113⟩ : ∃ y_ : List Int, y_ = (([] : List Int)) := ⟨_, rfl⟩
 replace H : (if y113.length + l0_0.length < 17592186044416 then ((some (([] : List (S62)) : List (S62))).bind fun y119 => (if y119.length + l0_1.length < 4398046511104 then (some ((y113 ++ l0_0), (y119 ++ l0_1), a0_2)) else (none))) else (none)) = some (r1, r2, r3) := by first | (rw [hy113]; with_reducible exact H) | (have H2_ := (Option.bind_some _ _).symm.trans H; rw [hy113]; with_reducible exact H2_) | (have H2_ := (Option.bind_some _ _).symm.trans H; with_reducible exact H2_) | with_reducible exact H | (rw [hy113]; exact H) | exact H
 have Ny113 := Aside0.mk hy113
 clear hy113
 by_cases c2 : y113.length + l0_0.length < 17592186044416
 ·rw [if_pos c2] at H
  have LMc2 := Aside0.mk c2
  clear c2
  obtain ⟨y116, hy116⟩ : ∃ y_ : List Int, y_ = (y113 ++ l0_0) := ⟨_, rfl⟩
  replace H : ((some (([] : List (S62)) : List (S62))).bind fun y119 => (if y119.length + l0_1.length < 4398046511104 then (some (y116, (y119 ++ l0_1), a0_2)) else (none))) = some (r1, r2, r3) := by first | (rw [hy116]; with_reducible exact H) | (have H2_ := (Option.bind_some _ _).symm.trans H; rw [hy116]; with_reducible exact H2_) | (have H2_ := (Option.bind_some _ _).symm.trans H; with_reducible exact H2_) | with_reducible exact H | (rw [hy116]; exact H) | exact H
  have Ny116 := Aside0.mk hy116
  clear hy116
  obtain ⟨y119, hy119⟩ : ∃ y_ : List (S62), y_ = (([] : List (S62))) := ⟨_, rfl⟩
  replace H : (if y119.length + l0_1.length < 4398046511104 then (some (y116, (y119 ++ l0_1), a0_2)) else (none)) = some (r1, r2, r3) := by first | (rw [hy119]; with_reducible exact H) | (have H2_ := (Option.bind_some _ _).symm.trans H; rw [hy119]; with_reducible exact H2_) | (have H2_ := (Option.bind_some _ _).symm.trans H; with_reducible exact H2_) | with_reducible exact H | (rw [hy119]; exact H) | exact H
  have Ny119 := Aside0.mk hy119
  clear hy119
  by_cases c3 : y119.length + l0_1.length < 4398046511104
  ·rw [if_pos c3] at H
   have LMc3 := Aside0.mk c3
   clear c3
   obtain ⟨y122, hy122⟩ : ∃ y_ : List (S62), y_ = (y119 ++ l0_1) := ⟨_, rfl⟩
   replace H : (some (y116, y122, a0_2)) = some (r1, r2, r3) := by first | (rw [hy122]; with_reducible exact H) | (have H2_ := (Option.bind_some _ _).symm.trans H; rw [hy122]; with_reducible exact H2_) | (have H2_ := (Option.bind_some _ _).symm.trans H; with_reducible exact H2_) | with_reducible exact H | (rw [hy122]; exact H) | exact H
   have Ny122 := Aside0.mk hy122
   clear hy122
   simp only [Option.some.injEq, Prod.mk.injEq] at H
   obtain ⟨rfl, rfl, rfl⟩ := H
   go_enter Try.func74, Try.ntmps74
   try go_wp2_with (first | ((with_reducible refine gate_dst (N := 1) rfl ?_); refine box_event ?hg (N := 1) ?hd (cs := #[.slice A0_0 l0_0.length c0_0, .slice A0_1 l0_1.length c0_1, .int .i64 a0_2]) (t := 25) ?hr ?_; (case hd => rfl); (case hg => rfl); (case hr => exact qdc1_11); intro gb111 hg w4 hbox hb; have n0_ := Aside0.mk (below_step (qdc1_5 HB) hb); have n1_ := Aside0.mk (hbox); have n2_ := Aside0.mk ((by rw [hg]; exact (below_size (qdc1_5 HB)) : w.heap.size ≤ gb111)); have n3_ := Aside0.mk ((by rw [hg]; exact (below_size (qdc1_5 HB)) : w.heap.size ≤ gb111)); clear HB; have HB := n0_; have BK111 := n1_; have GW111 := n2_; have GE111 := n3_; clear n0_ n1_ n2_ n3_; clear hb hbox hg) | ((with_reducible refine gate_dst (N := 2) rfl ?_); refine box_event ?hg (N := 2) ?hd (cs := #[.slice none 0 0, .slice none 0 0, .int .i64 0]) (t := 25) ?hr ?_; (case hd => rfl); (case hg => rfl); (case hr => exact qdc1_11); intro gb112 hg w5 hbox hb; have n0_ := Aside0.mk (blk_below (g := gb111) (o := .cells #[.slice A0_0 l0_0.length c0_0, .slice A0_1 l0_1.length c0_1, .int .i64 a0_2] 25 (0, 0)) (qdc1_2 BK111) hb); have n1_ := Aside0.mk (below_step (qdc1_4 HB GE111) hb); have n2_ := Aside0.mk (hbox); have n3_ := Aside0.mk ((by rw [hg]; exact (below_size (qdc1_4 HB GE111)) : w.heap.size ≤ gb112)); have n4_ := Aside0.mk ((by rw [hg]; exact (below_size (qdc1_4 HB GE111)) : w.heap.size ≤ gb112)); have n5_ := Aside0.mk ((by rw [hg]; exact Nat.ne_of_lt (blk_lt (g := gb111) (o := .cells #[.slice A0_0 l0_0.length c0_0, .slice A0_1 l0_1.length c0_1, .int .i64 a0_2] 25 (0, 0)) (qdc1_2 BK111)) : gb111 ≠ gb112)); have n6_ := Aside0.mk ((by rw [hg]; exact Nat.ne_of_gt (blk_lt (g := gb111) (o := .cells #[.slice A0_0 l0_0.length c0_0, .slice A0_1 l0_1.length c0_1, .int .i64 a0_2] 25 (0, 0)) (qdc1_2 BK111)) : gb112 ≠ gb111)); clear BK111; clear HB; have BK111 := n0_; have HB := n1_; have BK112 := n2_; have GW112 := n3_; have GE112 := n4_; have NB111_112 := n5_; have NB112_111 := n6_; clear n0_ n1_ n2_ n3_ n4_ n5_ n6_; clear hb hbox hg))
   have n0_ := Aside0.mk (blk_drew BK111.out)
   have n1_ := Aside0.mk (blk_drew BK112.out)
   have n2_ := Aside0.mk (below_drew1 HB.out)
   clear BK111
   clear BK112
   clear HB
   have BK111 := n0_
   have BK112 := n1_
   have HB := n2_
   clear n0_ n1_ n2_
   refine start_ (n := 12) (S := fun w' => w'.cell? ⟨gb111, 0, none⟩ = some (.slice A0_0 l0_0.length c0_0) ∧ w'.cell? ⟨gb111, 1, none⟩ = some (.slice A0_1 l0_1.length c0_1) ∧ w'.cell? ⟨gb111, 2, none⟩ = some (.int .i64 a0_2)) (ds := []) #[false, false, false, false, false, false, false, false, false, false, false, false] qdc1_15 rfl rfl ⟨(blk_cell BK111.out 0).trans rfl, (blk_cell BK111.out 1).trans rfl, (blk_cell BK111.out 2).trans rfl⟩ (fun hHeld => ?_); refine with_tabW spec_l7Copy.tab1 spec_l7Copy.bits1 (fun HT_ HW_ => ?_)
   generalize w5.drew = w6 at BK111 BK112 HB hHeld ⊢
   refine pure_ (i := 1) (N := some 4) (v := ?_) (a' := ?_) #[false, true, false, false, false, false, false, false, false, false, false, false] rfl rfl (any_of HT_.out qdc1_15) (fun _ _ _ h => h) (Or.inl ⟨by rfl, ?_⟩) ?_ ?_
   rotate_left
   ·intro w'
    go_simp
    with_reducible rfl
   rotate_left
   ·simp only [Act.put, List.setIfInBounds_toArray, List.set_cons_zero, List.set_cons_succ, i64_w, i32_w]
    rfl
   refine pure_ (i := 5) (N := some 8) (v := ?_) (a' := ?_) #[false, true, false, false, false, true, false, false, false, false, false, false] rfl rfl (any_of HT_.out qdc1_15) (fun _ _ _ h => h) (Or.inl ⟨by rfl, ?_⟩) ?_ ?_
   rotate_left
   ·intro w'
    go_simp
    with_reducible rfl
   rotate_left
   ·simp only [Act.put, List.setIfInBounds_toArray, List.set_cons_zero, List.set_cons_succ, i64_w, i32_w]
    rfl
   refine pure_ (i := 8) (N := some 11) (v := ?_) (a' := ?_) #[false, true, false, false, false, true, false, false, true, false, false, false] rfl rfl (any_of HT_.out qdc1_15) (fun _ _ _ h => h) (Or.inl ⟨by rfl, ?_⟩) ?_ ?_
   rotate_left
   ·intro w'
    go_simp
    with_reducible rfl
   rotate_left
   ·simp only [Act.put, List.setIfInBounds_toArray, List.set_cons_zero, List.set_cons_succ, i64_w, i32_w]
    rfl
   refine take_ (i := 2) (N := some 5) (v := ?_) (a' := ?_) #[false, true, true, false, false, true, false, false, true, false, false, false] rfl rfl (take_ofW HT_.out HW_.out qdc1_15) (fun _ _ _ h => h) (Or.inl ⟨by rfl, ?_⟩) hHeld ?_ ?_
   rotate_left
   ·rintro w' ⟨s0, s1, s2⟩
    go_simp
    with_reducible rfl
   rotate_left
   ·simp only [Act.put, List.setIfInBounds_toArray, List.set_cons_zero, List.set_cons_succ, i64_w, i32_w]
    rfl
   refine take_ (i := 6) (N := some 9) (v := ?_) (a' := ?_) #[false, true, true, false, false, true, true, false, true, false, false, false] rfl rfl (take_ofW HT_.out HW_.out qdc1_15) (fun _ _ _ h => h) (Or.inl ⟨by rfl, ?_⟩) hHeld ?_ ?_
   rotate_left
   ·rintro w' ⟨s0, s1, s2⟩
    go_simp
    with_reducible rfl
   rotate_left
   ·simp only [Act.put, List.setIfInBounds_toArray, List.set_cons_zero, List.set_cons_succ, i64_w, i32_w]
    rfl
   refine take_ (i := 9) (N := some 12) (v := ?_) (a' := ?_) #[false, true, true, false, false, true, true, false, true, true, false, false] rfl rfl (take_ofW HT_.out HW_.out qdc1_15) (fun _ _ _ h => h) (Or.inl ⟨by rfl, ?_⟩) hHeld ?_ ?_
   rotate_left
   ·rintro w' ⟨s0, s1, s2⟩
    go_simp
    with_reducible rfl
   rotate_left
   ·simp only [Act.put, List.setIfInBounds_toArray, List.set_cons_zero, List.set_cons_succ, i64_w, i32_w]
    rfl
   refine join_ (σ := Value × Value × Value) 3 #[true, true, true, true, true, true, true, false, true, true, false, false] (fun s_ => [(3, s_.1), (6, s_.2.1), (7, s_.2.2)]) (fun s_ w' => (w'.cell? ⟨gb111, 0, none⟩ = some (.slice A0_0 l0_0.length c0_0) ∧ w'.cell? ⟨gb111, 1, none⟩ = some (.slice A0_1 l0_1.length c0_1) ∧ w'.cell? ⟨gb111, 2, none⟩ = some (.int .i64 a0_2)) ∧ (Kd.R (Kd.int .i64) 2 w' w.heap.size (fun _ => True) s_.2.1 y116) ∧ (Kd.R k62 62 w' w.heap.size (fun _ => True) s_.2.2 y119) ∧ (w'.heap[gb111]? = some (.cells #[.slice A0_0 l0_0.length c0_0, .slice A0_1 l0_1.length c0_1, .int .i64 a0_2] 25 (0, 0))) ∧ (w'.heap[gb112]? = some (.cells #[.slice none 0 0, .slice none 0 0, .int .i64 0] 25 (0, 0))) ∧ (Below w.heap.size w w')) ?_ ?_
   rotate_left
   ·intro hCont
    refine two_ (i := 0) (j := 4) (Ni := some 3) (Nj := some 7) #[true, true, true, false, false, true, true, false, true, true, false, false] #[false, true, true, false, true, true, true, false, true, true, false, false] rfl rfl rfl rfl (two_of HT_.out qdc1_15) qdc1_16 qdc1_16 (fun K hK => ?_) (fun K hK => ?_)
    ·skip
     refine Kd.R_lit_step (Kd.int .i64) _ 2 ?hg (N := 3) ?hd (xs := ([] : List Int)) (inner := []) (ok := fun _ => True) (okp := fun _ => True) ?hr ?hp (fun _ hk => hk) trivial (Below.refl _ _) (Nat.le_refl _) (by simp) ?_; (case hd => rfl); (case hg => rfl); (case hr => exact qdc1_11); (case hp => exact (Reps.none _ _))
     intro v114 w7 ho8 hb hg_ hnew_
     clear hg_ hnew_
     (first | rw [← Ny113.out] at ho8 | (simp only [Int.reduceToNat] at ho8; rw [← Ny113.out] at ho8))
     have n0_ := Aside0.mk (Kd.R_lower ho8 (below_size (qdc1_1 HB GE111 GE112)))
     have n1_ := Aside0.mk (blk_below (g := gb111) (o := .cells #[.slice A0_0 l0_0.length c0_0, .slice A0_1 l0_1.length c0_1, .int .i64 a0_2] 25 (0, 0)) (qdc1_2 BK111) hb)
     have n2_ := Aside0.mk (blk_below (g := gb112) (o := .cells #[.slice none 0 0, .slice none 0 0, .int .i64 0] 25 (0, 0)) (qdc1_2 BK112) hb)
     have n3_ := Aside0.mk (below_step (qdc1_1 HB GE111 GE112) hb)
     clear BK111
     clear BK112
     clear HB
     have HO115 := n0_
     have BK111 := n1_
     have BK112 := n2_
     have HB := n3_
     clear n0_ n1_ n2_ n3_
     clear hb ho8
     refine hK.out _ _ ⟨(blk_cell BK111.out 0).trans rfl, (blk_cell BK111.out 1).trans rfl, (blk_cell BK111.out 2).trans rfl⟩ (fun hHeld => ?_)
     clear hK K
     refine norm_ (a' := ?_) ?_ ?_
     rotate_left
     ·show Act.put _ (some 3) _ = _
      simp only [Act.put, List.setIfInBounds_toArray, List.set_cons_zero, List.set_cons_succ, i64_w, i32_w]
      rfl
     refine two_ (i := 3) (j := 4) (Ni := some 6) (Nj := some 7) #[true, true, true, true, false, true, true, false, true, true, false, false] #[true, true, true, false, true, true, true, false, true, true, false, false] rfl rfl rfl rfl (two_of HT_.out qdc1_15) qdc1_16 qdc1_16 (fun K hK => ?_) (fun K hK => ?_)
     ·skip
      refine Kd.R_append_rows_step (Kd.int .i64) (w0 := w) w.heap.size (by rfl) (.tmp 3) (.tmp 5) 22 2 (.int .i64 0) 8 rfl Try.underlying22 info2 rfl qdc1_16 (by omega) v114 y113 l0_0 _ _ _ (fun _ => True) (fun _ => False) rfl rfl ?aO ?aR (fun _ _ h => h) (fun _ h => h.elim) ?aF ?aB ?aS ?aL ?_
      (case aR => repeat (first | exact (Kd.C_below HR0_0.out HB.out) | (with_reducible refine Kd.C_alloc ?_ _) | (with_reducible refine Kd.C_drewN ?_ _) | (with_reducible refine Kd.C_drew ?_)))
      (case aB => exact (qdc1_1 HB GE111 GE112))
      (case aF => exact (fun _ _ => trivial))
      (case aO => exact (qdc1_3 HO115))
      (case aS => exact (below_size (qdc1_1 HB GE111 GE112)))
      (case aL => have := LMc2.out; omega)
      intro v117 w9 ho hb hg hat
      rw [← Ny116.out] at ho
      have n0_ := Aside0.mk (blk_grown (g := gb111) (o := .cells #[.slice A0_0 l0_0.length c0_0, .slice A0_1 l0_1.length c0_1, .int .i64 a0_2] 25 (0, 0)) (qdc1_2 BK111) hg (Kd.R_ne HO115.out BK111.out qdc1_16))
      have n1_ := Aside0.mk (blk_grown (g := gb112) (o := .cells #[.slice none 0 0, .slice none 0 0, .int .i64 0] 25 (0, 0)) (qdc1_2 BK112) hg (Kd.R_ne HO115.out BK112.out qdc1_16))
      have n2_ := Aside0.mk (hb)
      have n3_ := Aside0.mk (ho)
      clear BK111
      clear BK112
      clear HB
      clear HO115
      have BK111 := n0_
      have BK112 := n1_
      have HB := n2_
      have HO118 := n3_
      clear n0_ n1_ n2_ n3_
      clear ho hb hg hat
      refine hK.out _ _ ⟨(blk_cell BK111.out 0).trans rfl, (blk_cell BK111.out 1).trans rfl, (blk_cell BK111.out 2).trans rfl⟩ (fun hHeld => ?_)
      clear hK K
      refine norm_ (a' := ?_) ?_ ?_
      rotate_left
      ·show Act.put _ (some 6) _ = _
       simp only [Act.put, List.setIfInBounds_toArray, List.set_cons_zero, List.set_cons_succ, i64_w, i32_w]
       rfl
      refine one_ (i := 4) (N := some 7) #[true, true, true, true, true, true, true, false, true, true, false, false] rfl rfl (one_of HT_.out qdc1_15) qdc1_16 (fun K hK => ?_)
      refine Kd.R_lit_step k62 _ 62 ?hg (N := 7) ?hd (xs := ([] : List (S62))) (inner := []) (ok := fun _ => True) (okp := fun _ => True) ?hr ?hp (fun _ hk => hk) trivial (Below.refl _ _) (Nat.le_refl _) (by simp) ?_; (case hd => rfl); (case hg => rfl); (case hr => exact qdc1_11); (case hp => exact (Reps.none _ _))
      intro v120 w10 ho11 hb hg_ hnew_
      clear hg_ hnew_
      (first | rw [← Ny119.out] at ho11 | (simp only [Int.reduceToNat] at ho11; rw [← Ny119.out] at ho11))
      have n0_ := Aside0.mk (Kd.R_below (qdc1_3 HO118) hb)
      have n1_ := Aside0.mk (Kd.R_lower ho11 (below_size (qdc1_1 HB GE111 GE112)))
      have n2_ := Aside0.mk (blk_below (g := gb111) (o := .cells #[.slice A0_0 l0_0.length c0_0, .slice A0_1 l0_1.length c0_1, .int .i64 a0_2] 25 (0, 0)) (qdc1_2 BK111) hb)
      have n3_ := Aside0.mk (blk_below (g := gb112) (o := .cells #[.slice none 0 0, .slice none 0 0, .int .i64 0] 25 (0, 0)) (qdc1_2 BK112) hb)
      have n4_ := Aside0.mk (below_step (qdc1_1 HB GE111 GE112) hb)
      clear HO118
      clear BK111
      clear BK112
      clear HB
      have HO118 := n0_
      have HO121 := n1_
      have BK111 := n2_
      have BK112 := n3_
      have HB := n4_
      clear n0_ n1_ n2_ n3_ n4_
      clear hb ho11
      refine hK.out _ _ ⟨(blk_cell BK111.out 0).trans rfl, (blk_cell BK111.out 1).trans rfl, (blk_cell BK111.out 2).trans rfl⟩ (fun hHeld => ?_)
      clear hK K
      refine norm_ (a' := ?_) ?_ ?_
      rotate_left
      ·show Act.put _ (some 7) _ = _
       simp only [Act.put, List.setIfInBounds_toArray, List.set_cons_zero, List.set_cons_succ, i64_w, i32_w]
       rfl
      exact norm_ (by simp only [putAll, Act.put, List.setIfInBounds_toArray, List.set_cons_zero, List.set_cons_succ]) (hCont (v114, v117, v120) _ ⟨hHeld, (qdc1_3 HO118), (qdc1_3 HO121), (qdc1_2 BK111), (qdc1_2 BK112), (qdc1_1 HB GE111 GE112)⟩)
     ·skip
      refine Kd.R_lit_step k62 _ 62 ?hg (N := 7) ?hd (xs := ([] : List (S62))) (inner := []) (ok := fun _ => True) (okp := fun _ => True) ?hr ?hp (fun _ hk => hk) trivial (Below.refl _ _) (Nat.le_refl _) (by simp) ?_; (case hd => rfl); (case hg => rfl); (case hr => exact qdc1_11); (case hp => exact (Reps.none _ _))
      intro v120 w9 ho10 hb hg_ hnew_
      clear hg_ hnew_
      (first | rw [← Ny119.out] at ho10 | (simp only [Int.reduceToNat] at ho10; rw [← Ny119.out] at ho10))
      have n0_ := Aside0.mk (Kd.R_below (qdc1_3 HO115) hb)
      have n1_ := Aside0.mk (Kd.R_lower ho10 (below_size (qdc1_1 HB GE111 GE112)))
      have n2_ := Aside0.mk (blk_below (g := gb111) (o := .cells #[.slice A0_0 l0_0.length c0_0, .slice A0_1 l0_1.length c0_1, .int .i64 a0_2] 25 (0, 0)) (qdc1_2 BK111) hb)
      have n3_ := Aside0.mk (blk_below (g := gb112) (o := .cells #[.slice none 0 0, .slice none 0 0, .int .i64 0] 25 (0, 0)) (qdc1_2 BK112) hb)
      have n4_ := Aside0.mk (below_step (qdc1_1 HB GE111 GE112) hb)
      clear HO115
      clear BK111
      clear BK112
      clear HB
      have HO115 := n0_
      have HO121 := n1_
      have BK111 := n2_
      have BK112 := n3_
      have HB := n4_
      clear n0_ n1_ n2_ n3_ n4_
      clear hb ho10
      refine hK.out _ _ ⟨(blk_cell BK111.out 0).trans rfl, (blk_cell BK111.out 1).trans rfl, (blk_cell BK111.out 2).trans rfl⟩ (fun hHeld => ?_)
      clear hK K
      refine norm_ (a' := ?_) ?_ ?_
      rotate_left
      ·show Act.put _ (some 7) _ = _
       simp only [Act.put, List.setIfInBounds_toArray, List.set_cons_zero, List.set_cons_succ, i64_w, i32_w]
       rfl
      refine one_ (i := 3) (N := some 6) #[true, true, true, true, true, true, true, false, true, true, false, false] rfl rfl (one_of HT_.out qdc1_15) qdc1_16 (fun K hK => ?_)
      refine Kd.R_append_rows_step (Kd.int .i64) (w0 := w) w.heap.size (by rfl) (.tmp 3) (.tmp 5) 22 2 (.int .i64 0) 8 rfl Try.underlying22 info2 rfl qdc1_16 (by omega) v114 y113 l0_0 _ _ _ (fun _ => True) (fun _ => False) rfl rfl ?aO ?aR (fun _ _ h => h) (fun _ h => h.elim) ?aF ?aB ?aS ?aL ?_
      (case aR => repeat (first | exact (Kd.C_below HR0_0.out HB.out) | (with_reducible refine Kd.C_alloc ?_ _) | (with_reducible refine Kd.C_drewN ?_ _) | (with_reducible refine Kd.C_drew ?_)))
      (case aB => exact (qdc1_1 HB GE111 GE112))
      (case aF => exact (fun _ _ => trivial))
      (case aO => exact (qdc1_3 HO115))
      (case aS => exact (below_size (qdc1_1 HB GE111 GE112)))
      (case aL => have := LMc2.out; omega)
      intro v117 w11 ho hb hg hat
      rw [← Ny116.out] at ho
      have n0_ := Aside0.mk (blk_grown (g := gb111) (o := .cells #[.slice A0_0 l0_0.length c0_0, .slice A0_1 l0_1.length c0_1, .int .i64 a0_2] 25 (0, 0)) (qdc1_2 BK111) hg (Kd.R_ne HO115.out BK111.out qdc1_16))
      have n1_ := Aside0.mk (blk_grown (g := gb112) (o := .cells #[.slice none 0 0, .slice none 0 0, .int .i64 0] 25 (0, 0)) (qdc1_2 BK112) hg (Kd.R_ne HO115.out BK112.out qdc1_16))
      have n2_ := Aside0.mk (Kd.R_over' (qdc1_3 HO121) (Kd.R_typed (qdc1_3 HO115)) qdc1_16 hg)
      have n3_ := Aside0.mk (hb)
      have n4_ := Aside0.mk (ho)
      clear BK111
      clear BK112
      clear HO121
      clear HB
      clear HO115
      have BK111 := n0_
      have BK112 := n1_
      have HO121 := n2_
      have HB := n3_
      have HO118 := n4_
      clear n0_ n1_ n2_ n3_ n4_
      clear ho hb hg hat
      refine hK.out _ _ ⟨(blk_cell BK111.out 0).trans rfl, (blk_cell BK111.out 1).trans rfl, (blk_cell BK111.out 2).trans rfl⟩ (fun hHeld => ?_)
      clear hK K
      refine norm_ (a' := ?_) ?_ ?_
      rotate_left
      ·show Act.put _ (some 6) _ = _
       simp only [Act.put, List.setIfInBounds_toArray, List.set_cons_zero, List.set_cons_succ, i64_w, i32_w]
       rfl
      exact norm_ (by simp only [putAll, Act.put, List.setIfInBounds_toArray, List.set_cons_zero, List.set_cons_succ]) (hCont (v114, v117, v120) _ ⟨hHeld, (qdc1_3 HO118), (qdc1_3 HO121), (qdc1_2 BK111), (qdc1_2 BK112), (qdc1_1 HB GE111 GE112)⟩)
    ·skip
     refine Kd.R_lit_step k62 _ 62 ?hg (N := 7) ?hd (xs := ([] : List (S62))) (inner := []) (ok := fun _ => True) (okp := fun _ => True) ?hr ?hp (fun _ hk => hk) trivial (Below.refl _ _) (Nat.le_refl _) (by simp) ?_; (case hd => rfl); (case hg => rfl); (case hr => exact qdc1_11); (case hp => exact (Reps.none _ _))
     intro v120 w7 ho8 hb hg_ hnew_
     clear hg_ hnew_
     (first | rw [← Ny119.out] at ho8 | (simp only [Int.reduceToNat] at ho8; rw [← Ny119.out] at ho8))
     have n0_ := Aside0.mk (Kd.R_lower ho8 (below_size (qdc1_1 HB GE111 GE112)))
     have n1_ := Aside0.mk (blk_below (g := gb111) (o := .cells #[.slice A0_0 l0_0.length c0_0, .slice A0_1 l0_1.length c0_1, .int .i64 a0_2] 25 (0, 0)) (qdc1_2 BK111) hb)
     have n2_ := Aside0.mk (blk_below (g := gb112) (o := .cells #[.slice none 0 0, .slice none 0 0, .int .i64 0] 25 (0, 0)) (qdc1_2 BK112) hb)
     have n3_ := Aside0.mk (below_step (qdc1_1 HB GE111 GE112) hb)
     clear BK111
     clear BK112
     clear HB
     have HO121 := n0_
     have BK111 := n1_
     have BK112 := n2_
     have HB := n3_
     clear n0_ n1_ n2_ n3_
     clear hb ho8
     refine hK.out _ _ ⟨(blk_cell BK111.out 0).trans rfl, (blk_cell BK111.out 1).trans rfl, (blk_cell BK111.out 2).trans rfl⟩ (fun hHeld => ?_)
     clear hK K
     refine norm_ (a' := ?_) ?_ ?_
     rotate_left
     ·show Act.put _ (some 7) _ = _
      simp only [Act.put, List.setIfInBounds_toArray, List.set_cons_zero, List.set_cons_succ, i64_w, i32_w]
      rfl
     refine one_ (i := 0) (N := some 3) #[true, true, true, false, true, true, true, false, true, true, false, false] rfl rfl (one_of HT_.out qdc1_15) qdc1_16 (fun K hK => ?_)
     refine Kd.R_lit_step (Kd.int .i64) _ 2 ?hg (N := 3) ?hd (xs := ([] : List Int)) (inner := []) (ok := fun _ => True) (okp := fun _ => True) ?hr ?hp (fun _ hk => hk) trivial (Below.refl _ _) (Nat.le_refl _) (by simp) ?_; (case hd => rfl); (case hg => rfl); (case hr => exact qdc1_11); (case hp => exact (Reps.none _ _))
     intro v114 w9 ho10 hb hg_ hnew_
     clear hg_ hnew_
     (first | rw [← Ny113.out] at ho10 | (simp only [Int.reduceToNat] at ho10; rw [← Ny113.out] at ho10))
     have n0_ := Aside0.mk (Kd.R_below (qdc1_3 HO121) hb)
     have n1_ := Aside0.mk (Kd.R_lower ho10 (below_size (qdc1_1 HB GE111 GE112)))
     have n2_ := Aside0.mk (blk_below (g := gb111) (o := .cells #[.slice A0_0 l0_0.length c0_0, .slice A0_1 l0_1.length c0_1, .int .i64 a0_2] 25 (0, 0)) (qdc1_2 BK111) hb)
     have n3_ := Aside0.mk (blk_below (g := gb112) (o := .cells #[.slice none 0 0, .slice none 0 0, .int .i64 0] 25 (0, 0)) (qdc1_2 BK112) hb)
     have n4_ := Aside0.mk (below_step (qdc1_1 HB GE111 GE112) hb)
     clear HO121
     clear BK111
     clear BK112
     clear HB
     have HO121 := n0_
     have HO115 := n1_
     have BK111 := n2_
     have BK112 := n3_
     have HB := n4_
     clear n0_ n1_ n2_ n3_ n4_
     clear hb ho10
     refine hK.out _ _ ⟨(blk_cell BK111.out 0).trans rfl, (blk_cell BK111.out 1).trans rfl, (blk_cell BK111.out 2).trans rfl⟩ (fun hHeld => ?_)
     clear hK K
     refine norm_ (a' := ?_) ?_ ?_
     rotate_left
     ·show Act.put _ (some 3) _ = _
      simp only [Act.put, List.setIfInBounds_toArray, List.set_cons_zero, List.set_cons_succ, i64_w, i32_w]
      rfl
     refine one_ (i := 3) (N := some 6) #[true, true, true, true, true, true, true, false, true, true, false, false] rfl rfl (one_of HT_.out qdc1_15) qdc1_16 (fun K hK => ?_)
     refine Kd.R_append_rows_step (Kd.int .i64) (w0 := w) w.heap.size (by rfl) (.tmp 3) (.tmp 5) 22 2 (.int .i64 0) 8 rfl Try.underlying22 info2 rfl qdc1_16 (by omega) v114 y113 l0_0 _ _ _ (fun _ => True) (fun _ => False) rfl rfl ?aO ?aR (fun _ _ h => h) (fun _ h => h.elim) ?aF ?aB ?aS ?aL ?_
     (case aR => repeat (first | exact (Kd.C_below HR0_0.out HB.out) | (with_reducible refine Kd.C_alloc ?_ _) | (with_reducible refine Kd.C_drewN ?_ _) | (with_reducible refine Kd.C_drew ?_)))
     (case aB => exact (qdc1_1 HB GE111 GE112))
     (case aF => exact (fun _ _ => trivial))
     (case aO => exact (qdc1_3 HO115))
     (case aS => exact (below_size (qdc1_1 HB GE111 GE112)))
     (case aL => have := LMc2.out; omega)
     intro v117 w11 ho hb hg hat
     rw [← Ny116.out] at ho
     have n0_ := Aside0.mk (blk_grown (g := gb111) (o := .cells #[.slice A0_0 l0_0.length c0_0, .slice A0_1 l0_1.length c0_1, .int .i64 a0_2] 25 (0, 0)) (qdc1_2 BK111) hg (Kd.R_ne HO115.out BK111.out qdc1_16))
     have n1_ := Aside0.mk (blk_grown (g := gb112) (o := .cells #[.slice none 0 0, .slice none 0 0, .int .i64 0] 25 (0, 0)) (qdc1_2 BK112) hg (Kd.R_ne HO115.out BK112.out qdc1_16))
     have n2_ := Aside0.mk (Kd.R_over' (qdc1_3 HO121) (Kd.R_typed (qdc1_3 HO115)) qdc1_16 hg)
     have n3_ := Aside0.mk (hb)
     have n4_ := Aside0.mk (ho)
     clear BK111
     clear BK112
     clear HO121
     clear HB
     clear HO115
     have BK111 := n0_
     have BK112 := n1_
     have HO121 := n2_
     have HB := n3_
     have HO118 := n4_
     clear n0_ n1_ n2_ n3_ n4_
     clear ho hb hg hat
     refine hK.out _ _ ⟨(blk_cell BK111.out 0).trans rfl, (blk_cell BK111.out 1).trans rfl, (blk_cell BK111.out 2).trans rfl⟩ (fun hHeld => ?_)
     clear hK K
     refine norm_ (a' := ?_) ?_ ?_
     rotate_left
     ·show Act.put _ (some 6) _ = _
      simp only [Act.put, List.setIfInBounds_toArray, List.set_cons_zero, List.set_cons_succ, i64_w, i32_w]
      rfl
     exact norm_ (by simp only [putAll, Act.put, List.setIfInBounds_toArray, List.set_cons_zero, List.set_cons_succ]) (hCont (v114, v117, v120) _ ⟨hHeld, (qdc1_3 HO118), (qdc1_3 HO121), (qdc1_2 BK111), (qdc1_2 BK112), (qdc1_1 HB GE111 GE112)⟩)
   rintro ⟨v114, v117, v120⟩ w12 ⟨hS_, h0_, h1_, h2_, h3_, h4_⟩
   have n0_ : Aside0 (Kd.R (Kd.int .i64) 2 w12 w.heap.size (fun _ => True) v117 y116) := ⟨h0_⟩
   have n1_ : Aside0 (Kd.R k62 62 w12 w.heap.size (fun _ => True) v120 y119) := ⟨h1_⟩
   have n2_ : Aside0 (w12.heap[gb111]? = some (.cells #[.slice A0_0 l0_0.length c0_0, .slice A0_1 l0_1.length c0_1, .int .i64 a0_2] 25 (0, 0))) := ⟨h2_⟩
   have n3_ : Aside0 (w12.heap[gb112]? = some (.cells #[.slice none 0 0, .slice none 0 0, .int .i64 0] 25 (0, 0))) := ⟨h3_⟩
   have n4_ : Aside0 (Below w.heap.size w w12) := ⟨h4_⟩
   clear BK111
   clear BK112
   clear HB
   clear h0_ h1_ h2_ h3_ h4_
   have HO118 := n0_
   have HO121 := n1_
   have BK111 := n2_
   have BK112 := n3_
   have HB := n4_
   clear n0_ n1_ n2_ n3_ n4_
   have hHeld : w12.cell? ⟨gb111, 0, none⟩ = some (.slice A0_0 l0_0.length c0_0) ∧ w12.cell? ⟨gb111, 1, none⟩ = some (.slice A0_1 l0_1.length c0_1) ∧ w12.cell? ⟨gb111, 2, none⟩ = some (.int .i64 a0_2) := hS_
   refine norm_ (a' := ?_) ?_ ?_
   rotate_left
   ·simp only [putAll, Act.put, List.setIfInBounds_toArray, List.set_cons_zero, List.set_cons_succ]
    rfl
   refine one_ (i := 7) (N := some 10) #[true, true, true, true, true, true, true, true, true, true, false, false] rfl rfl (one_of HT_.out qdc1_15) qdc1_16 (fun K hK => ?_)
   refine Kd.R_append_rows_step k62 (w0 := w) w.heap.size (by rfl) (.tmp 7) (.tmp 9) 23 62 (.agg #[(.int .u64 0), (.int .i64 0), (.int .i64 0), (.bool false)]) 32 rfl Try.underlying23 info62 rfl qdc1_16 (by omega) v120 y119 l0_1 _ _ _ (fun _ => True) (fun _ => False) rfl rfl ?aO ?aR (fun _ _ h => h) (fun _ h => h.elim) ?aF ?aB ?aS ?aL ?_
   (case aR => repeat (first | exact (Kd.C_below HR0_1.out HB.out) | (with_reducible refine Kd.C_alloc ?_ _) | (with_reducible refine Kd.C_drewN ?_ _) | (with_reducible refine Kd.C_drew ?_)))
   (case aB => exact (qdc1_1 HB GE111 GE112))
   (case aF => exact (fun _ _ => trivial))
   (case aO => exact (qdc1_3 HO121))
   (case aS => exact (below_size (qdc1_1 HB GE111 GE112)))
   (case aL => have := LMc3.out; omega)
   intro v123 w13 ho hb hg hat
   rw [← Ny122.out] at ho
   have n0_ := Aside0.mk (blk_grown (g := gb111) (o := .cells #[.slice A0_0 l0_0.length c0_0, .slice A0_1 l0_1.length c0_1, .int .i64 a0_2] 25 (0, 0)) (qdc1_2 BK111) hg (Kd.R_ne HO121.out BK111.out qdc1_16))
   have n1_ := Aside0.mk (blk_grown (g := gb112) (o := .cells #[.slice none 0 0, .slice none 0 0, .int .i64 0] 25 (0, 0)) (qdc1_2 BK112) hg (Kd.R_ne HO121.out BK112.out qdc1_16))
   have n2_ := Aside0.mk (Kd.R_over' (qdc1_3 HO118) (Kd.R_typed (qdc1_3 HO121)) qdc1_16 hg)
   have n3_ := Aside0.mk (hb)
   have n4_ := Aside0.mk (ho)
   clear BK111
   clear BK112
   clear HO118
   clear HB
   clear HO121
   have BK111 := n0_
   have BK112 := n1_
   have HO118 := n2_
   have HB := n3_
   have HO124 := n4_
   clear n0_ n1_ n2_ n3_ n4_
   clear ho hb hg hat
   obtain ⟨Ao14, co14, eo14⟩ := Kd.R_slice HO124.out
   (first | subst eo14 | (injection eo14 with f1_ f2_ f3_; have f4_ := f1_.symm; have f5_ := f3_.symm; clear f1_ f2_ f3_; subst f4_; subst f5_))
   obtain ⟨Ao15, co15, eo15⟩ := Kd.R_slice HO118.out
   (first | subst eo15 | (injection eo15 with f1_ f2_ f3_; have f4_ := f1_.symm; have f5_ := f3_.symm; clear f1_ f2_ f3_; subst f4_; subst f5_))
   refine hK.out _ _ ⟨(blk_cell BK111.out 0).trans rfl, (blk_cell BK111.out 1).trans rfl, (blk_cell BK111.out 2).trans rfl⟩ (fun hHeld => ?_)
   clear hK K
   refine norm_ (a' := ?_) ?_ ?_
   rotate_left
   ·show Act.put _ (some 10) _ = _
    simp only [Act.put, List.setIfInBounds_toArray, List.set_cons_zero, List.set_cons_succ, i64_w, i32_w]
    rfl
   refine pure_ (i := 10) (N := some 13) (v := ?_) (a' := ?_) #[true, true, true, true, true, true, true, true, true, true, true, false] rfl rfl (any_of HT_.out qdc1_15) (fun _ _ _ h => h) (Or.inl ⟨by rfl, ?_⟩) ?_ ?_
   rotate_left
   ·intro w'
    go_simp
    with_reducible rfl
   rotate_left
   ·simp only [Act.put, List.setIfInBounds_toArray, List.set_cons_zero, List.set_cons_succ, i64_w, i32_w]
    rfl
   refine one_ (i := 11) (N := none) #[true, true, true, true, true, true, true, true, true, true, true, true] rfl rfl (one_of HT_.out qdc1_15) qdc1_16 (fun K hK => ?_)
   have hs16 : w13.cell? ⟨gb112, 0, none⟩ = some (.slice none 0 0) := (blk_cell BK112.out 0).trans rfl
   have hfs16 := blk_frozen BK112.out 0
   have hns16_0 := NB111_112.out
   have hms16_0 := NB112_111.out
   have hs17 : w13.cell? ⟨gb112, 1, none⟩ = some (.slice none 0 0) := (blk_cell BK112.out 1).trans rfl
   have hfs17 := blk_frozen BK112.out 1
   have hns17_0 := NB111_112.out
   have hms17_0 := NB112_111.out
   have hs18 : w13.cell? ⟨gb112, 2, none⟩ = some (.int .i64 0) := (blk_cell BK112.out 2).trans rfl
   have hfs18 := blk_frozen BK112.out 2
   have hns18_0 := NB111_112.out
   have hms18_0 := NB112_111.out
   refine skip_ (w1 := ?_) (by rfl) rfl ?_ ?_
   rotate_left
   ·go_simp
    rfl
   refine hK.out _ _ ⟨((cell_far (p := ⟨gb112, _, none⟩) NB111_112.out _).trans (((cell_far (p := ⟨gb112, _, none⟩) NB111_112.out _).trans (((cell_far (p := ⟨gb112, _, none⟩) NB111_112.out _).trans (hHeld.1)))))), ((cell_far (p := ⟨gb112, _, none⟩) NB111_112.out _).trans (((cell_far (p := ⟨gb112, _, none⟩) NB111_112.out _).trans (((cell_far (p := ⟨gb112, _, none⟩) NB111_112.out _).trans (hHeld.2.1)))))), ((cell_far (p := ⟨gb112, _, none⟩) NB111_112.out _).trans (((cell_far (p := ⟨gb112, _, none⟩) NB111_112.out _).trans (((cell_far (p := ⟨gb112, _, none⟩) NB111_112.out _).trans (hHeld.2.2))))))⟩ (fun hHeld => ?_)
   clear hK K
   refine done_ (done_of HT_.out qdc1_15) ?_
   try go_wp2
   refine bodyPost_ret (results_cell_row rfl _ _ gb112 25 #[.slice Ao15 y116.length co15, .slice Ao14 y122.length co14, .int .i64 a0_2] (0, 0) _ rfl (by (with_reducible repeat (first | refine blk_drewN ?_ _ | refine blk_drew ?_ | refine blk_alloc ?_ _)); refine blk_put (cs := #[.slice Ao15 y116.length co15, .slice Ao14 y122.length co14, .int .i64 0]) ?_ 2 _ rfl; (with_reducible repeat (first | refine blk_drewN ?_ _ | refine blk_drew ?_ | refine blk_alloc ?_ _)); refine blk_put (cs := #[.slice Ao15 y116.length co15, .slice none 0 0, .int .i64 0]) ?_ 1 _ rfl; (with_reducible repeat (first | refine blk_drewN ?_ _ | refine blk_drew ?_ | refine blk_alloc ?_ _)); refine blk_put (cs := #[.slice none 0 0, .slice none 0 0, .int .i64 0]) ?_ 0 _ rfl; (with_reducible repeat (first | refine blk_drewN ?_ _ | refine blk_drew ?_ | refine blk_alloc ?_ _)); exact BK112.out) Try.underlying25 rfl qdc1_15) rfl ?_
   exact ⟨_, _, by first | rfl | (simp [errW_none, errW_some] <;> rfl) | (simp [*, errW_none, errW_some] <;> rfl), by (with_reducible repeat (first | apply Kd.R_alloc | apply Kd.R_drewN | apply Kd.R_drew)); exact Kd.R_mono (Kd.R_far (p := ⟨gb112, 2, none⟩) (Kd.R_far (p := ⟨gb112, 1, none⟩) (Kd.R_far (p := ⟨gb112, 0, none⟩) (Kd.R_types HO118.out BK112.out qdc1_16) (fun _ hk => hk.2) (.slice Ao15 y116.length co15)) (fun _ hk => hk.2) (.slice Ao14 y122.length co14)) (fun _ hk => hk.2) (.int .i64 a0_2)) (fun _ hk => trivial), by (with_reducible repeat (first | apply Kd.R_alloc | apply Kd.R_drewN | apply Kd.R_drew)); exact Kd.R_mono (Kd.R_far (p := ⟨gb112, 2, none⟩) (Kd.R_far (p := ⟨gb112, 1, none⟩) (Kd.R_far (p := ⟨gb112, 0, none⟩) (Kd.R_types HO124.out BK112.out qdc1_16) (fun _ hk => hk.2) (.slice Ao15 y116.length co15)) (fun _ hk => hk.2) (.slice Ao14 y122.length co14)) (fun _ hk => hk.2) (.int .i64 a0_2)) (fun _ hk => trivial), by repeat (first | (with_reducible first | exact HB.out | apply below_alloc | apply pw_below_drewN | apply below_drew1 | refine below_set ?_ GE111.out | refine below_set ?_ GE112.out) | exact HB.out)⟩
  ·rw [if_neg c3] at H
   exact absurd H (by simp)
 ·rw [if_neg c2] at H
  exact absurd H (by simp)

/-! ### spec_l7Cut: function 61 -/
def spec_l7Cut.f (k : Nat) (l0_0 : List Int) (l0_1 : List (S62)) (a0_2 : Int) (a1 : Int) (a2 : Int) : Option (List Int × (List (S62)) × Int × Bool) := (spec_l7Copy.f l0_0 l0_1 a0_2).bind fun bt127 => ((spec_l7Find.f k bt127.1 bt127.2.1 bt127.2.2 a1 a2).bind fun bt134 => (if bt134.1 < 0 then (some (bt127.1, bt127.2.1, bt127.2.2, false)) else (if 0 ≤ bt134.1 then (if bt134.1 < (bt127.2.1.length : Int) then (some (bt127.1, (bt127.2.1.set (bt134.1 : Int).toNat (⟨a1, 0, 0, true⟩ : S62)), wrap64 (bt127.2.2 - 1), true)) else (none)) else (none))))
theorem spec_l7Cut.mono : ∀ a0 a1 a2 a3 a4 k, LeO (spec_l7Cut.f k a0 a1 a2 a3 a4) (spec_l7Cut.f (k + 1) a0 a1 a2 a3 a4) := by
 intro a0 a1 a2 a3 a4 k
 unfold spec_l7Cut.f
 repeat' first
   | (with_reducible exact spec_l7Find.mono _ _ _ _ _ _)
   | (with_reducible exact LeO.refl _)
   | (with_reducible exact LeO.none _)
   | (with_reducible refine LeO.ite ?_ ?_)
   | (with_reducible refine LeO.bind ?_ (fun _ => ?_))
   | exact spec_l7Find.mono _ _ _ _ _ _
   | exact LeO.none _
   | refine LeO.ite ?_ ?_
   | refine LeO.bind ?_ (fun _ => ?_)
set_option maxHeartbeats 8000000 in
set_option maxRecDepth 100000 in
theorem spec_l7Cut.calls (k : Nat) (A0_0 : Option Addr) (c0_0 : Nat) (l0_0 : List Int) (A0_1 : Option Addr) (c0_1 : Nat) (l0_1 : List (S62)) (a0_2 : Int) (a1 : Int) (a2 : Int) (r1 : List Int) (r2 : List (S62)) (r3 : Int) (r4 : Bool) (w : World) (hr0_0 : Kd.C (Kd.int .i64) w A0_0 l0_0.length l0_0) (hc0_0 : l0_0.length ≤ c0_0) (hr0_1 : Kd.C k62 w A0_1 l0_1.length l0_1) (hc0_1 : l0_1.length ≤ c0_1) (h : spec_l7Cut.f k l0_0 l0_1 a0_2 a1 a2 = some (r1, r2, r3, r4)) :
  Calls Try.prog 61 #[.agg #[.slice A0_0 l0_0.length c0_0, .slice A0_1 l0_1.length c0_1, .int .i64 a0_2], .int .u64 a1, .int .i64 a2] w fun e w' => ∃ v0_ v1_ : Value, e = .returned (.tuple #[.agg #[v0_, v1_, .int .i64 r3], .bool r4]) ∧ Kd.R (Kd.int .i64) 2 w' w.heap.size (fun _ => True) v0_ r1 ∧ Kd.R k62 62 w' w.heap.size (fun _ => True) v1_ r2 ∧ Below w.heap.size w w' := by
 have hu25 := Try.underlying25
 have hu62 := Try.underlying62
 have HR0_0 := Aside0.mk hr0_0
 have HC0_0 := Aside0.mk hc0_0
 clear hr0_0 hc0_0
 have HR0_1 := Aside0.mk hr0_1
 have HC0_1 := Aside0.mk hc0_1
 clear hr0_1 hc0_1
 have HB := Aside0.mk (Below.refl w.heap.size w)
 have H : ((spec_l7Copy.f l0_0 l0_1 a0_2).bind fun bt127 => ((spec_l7Find.f k bt127.1 bt127.2.1 bt127.2.2 a1 a2).bind fun bt134 => (if bt134.1 < 0 then (some (bt127.1, bt127.2.1, bt127.2.2, false)) else (if 0 ≤ bt134.1 then (if bt134.1 < (bt127.2.1.length : Int) then (some (bt127.1, (bt127.2.1.set (bt134.1 : Int).toNat (⟨a1, 0, 0, true⟩ : S62)), wrap64 (bt127.2.2 - 1), true)) else (none)) else (none))))) = some (r1, r2, r3, r4) := h
 clear h
 replace H := Option.bind_eq_some_iff.mp H
 obtain ⟨⟨t127, t130, t133⟩, A40, H⟩ := H
 replace H : ((spec_l7Find.f k t127 t130 t133 a1 a2).bind fun bt134 => (if bt134.1 < 0 then (some (t127, t130, t133, false)) else (if 0 ≤ bt134.1 then (if bt134.1 < (t130.length : Int) then (some (t127, (t130.set (bt134.1 : Int).toNat (⟨a1, 0, 0, true⟩ : S62)), wrap64 (t133 - 1), true)) else (none)) else (none)))) = some (r1, r2, r3, r4) := H
 have A4 := Aside0.mk A40
 clear A40
 replace H := Option.bind_eq_some_iff.mp H
 obtain ⟨⟨t134, t135⟩, A50, H⟩ := H
 replace H : (if t134 < 0 then (some (t127, t130, t133, false)) else (if 0 ≤ t134 then (if t134 < (t130.length : Int) then (some (t127, (t130.set (t134 : Int).toNat (⟨a1, 0, 0, true⟩ : S62)), wrap64 (t133 - 1), true)) else (none)) else (none))) = some (r1, r2, r3, r4) := H
 have A5 := Aside0.mk A50
 clear A50
 by_cases c6 : t134 < 0
 ·rw [if_pos c6] at H
  have c6b0 : decide (t134 < 0) = true := decide_eq_true c6
  clear c6
  simp only [Option.some.injEq, Prod.mk.injEq] at H
  obtain ⟨rfl, rfl, rfl, rfl⟩ := H
  go_enter Try.func61, Try.ntmps61
  go_wp2_with (first | ((with_reducible refine gate_dst (N := 3) rfl ?_); refine box_event ?hg (N := 3) ?hd (cs := #[.slice A0_0 l0_0.length c0_0, .slice A0_1 l0_1.length c0_1, .int .i64 a0_2]) (t := 25) ?hr ?_; (case hd => rfl); (case hg => rfl); (case hr => exact qdc1_11); intro gb125 hg w7 hbox hb; have n0_ := Aside0.mk (below_step (qdc1_5 HB) hb); have n1_ := Aside0.mk (hbox); have n2_ := Aside0.mk ((by rw [hg]; exact (below_size (qdc1_5 HB)) : w.heap.size ≤ gb125)); have n3_ := Aside0.mk ((by rw [hg]; exact (below_size (qdc1_5 HB)) : w.heap.size ≤ gb125)); clear HB; have HB := n0_; have BK125 := n1_; have GW125 := n2_; have GE125 := n3_; clear n0_ n1_ n2_ n3_; clear hb hbox hg) | ((with_reducible refine gate_dst (N := 6) rfl ?_); refine box_event ?hg (N := 6) ?hd (cs := #[.slice none 0 0, .slice none 0 0, .int .i64 0]) (t := 25) ?hr ?_; (case hd => rfl); (case hg => rfl); (case hr => exact qdc1_11); intro gb126 hg w8 hbox hb; have n0_ := Aside0.mk (blk_below (g := gb125) (o := .cells #[.slice A0_0 l0_0.length c0_0, .slice A0_1 l0_1.length c0_1, .int .i64 a0_2] 25 (0, 0)) (qdc1_2 BK125) hb); have n1_ := Aside0.mk (below_step (qdc1_4 HB GE125) hb); have n2_ := Aside0.mk (hbox); have n3_ := Aside0.mk ((by rw [hg]; exact (below_size (qdc1_4 HB GE125)) : w.heap.size ≤ gb126)); have n4_ := Aside0.mk ((by rw [hg]; exact (below_size (qdc1_4 HB GE125)) : w.heap.size ≤ gb126)); have n5_ := Aside0.mk ((by rw [hg]; exact Nat.ne_of_lt (blk_lt (g := gb125) (o := .cells #[.slice A0_0 l0_0.length c0_0, .slice A0_1 l0_1.length c0_1, .int .i64 a0_2] 25 (0, 0)) (qdc1_2 BK125)) : gb125 ≠ gb126)); have n6_ := Aside0.mk ((by rw [hg]; exact Nat.ne_of_gt (blk_lt (g := gb125) (o := .cells #[.slice A0_0 l0_0.length c0_0, .slice A0_1 l0_1.length c0_1, .int .i64 a0_2] 25 (0, 0)) (qdc1_2 BK125)) : gb126 ≠ gb125)); clear BK125; clear HB; have BK125 := n0_; have HB := n1_; have BK126 := n2_; have GW126 := n3_; have GE126 := n4_; have NB125_126 := n5_; have NB126_125 := n6_; clear n0_ n1_ n2_ n3_ n4_ n5_ n6_; clear hb hbox hg; have hnb9 := NB125_126.out; have hnc9 := NB126_125.out; have hcz10_0 : w8.cell? ⟨gb125, 0, none⟩ = some (.slice A0_0 l0_0.length c0_0) := (blk_cell BK125.out 0).trans rfl; have hcz10_1 : w8.cell? ⟨gb125, 1, none⟩ = some (.slice A0_1 l0_1.length c0_1) := (blk_cell BK125.out 1).trans rfl; have hcz10_2 : w8.cell? ⟨gb125, 2, none⟩ = some (.int .i64 a0_2) := (blk_cell BK125.out 2).trans rfl; have hfz10_0 := blk_frozen BK125.out 0; have hfz10_1 := blk_frozen BK125.out 1; have hfz10_2 := blk_frozen BK125.out 2) | ((with_reducible refine gate_callee (f := 74) rfl ?_); refine goesL_ (some 11) rfl rfl Try.func74 qdc1_15 rfl #[.agg #[.slice A0_0 l0_0.length c0_0, .slice A0_1 l0_1.length c0_1, .int .i64 a0_2]] rfl qdc1_10 ?_; (with_reducible refine (spec_l7Copy.calls _ _ l0_0 _ _ l0_1 a0_2 t127 t130 t133 _ ?side1 ?side2 ?side3 ?side4 A4.out).mono ?_); (case side1 => exact (qdc1_7 HR0_0 HB)); (case side2 => exact HC0_0.out); (case side3 => exact (qdc1_7 HR0_1 HB)); (case side4 => exact HC0_1.out); rintro e w11 ⟨v128, v131, rfl, ho0, ho1, hb⟩; refine ⟨_, rfl, ?_⟩; have n0_ := Aside0.mk (Kd.R_lower ho0 (below_size (qdc1_1 HB GE125 GE126))); have n1_ := Aside0.mk (Kd.R_lower ho1 (below_size (qdc1_1 HB GE125 GE126))); have n2_ := Aside0.mk (blk_below (g := gb125) (o := .cells #[.slice A0_0 l0_0.length c0_0, .slice A0_1 l0_1.length c0_1, .int .i64 a0_2] 25 (0, 0)) (qdc1_2 BK125) hb); have n3_ := Aside0.mk (blk_below (g := gb126) (o := .cells #[.slice none 0 0, .slice none 0 0, .int .i64 0] 25 (0, 0)) (qdc1_2 BK126) hb); have n4_ := Aside0.mk (below_step (qdc1_1 HB GE125 GE126) hb); clear BK125; clear BK126; clear HB; have HO129 := n0_; have HO132 := n1_; have BK125 := n2_; have BK126 := n3_; have HB := n4_; clear n0_ n1_ n2_ n3_ n4_; (try clear hb); (try clear hb2); (try clear hk); (try clear hi); (try clear ho0); (try clear ho1); obtain ⟨Ao12, co12, eo12⟩ := Kd.R_slice HO129.out; subst eo12; have hcz13_0 : w11.cell? ⟨gb125, 0, none⟩ = some (.slice A0_0 l0_0.length c0_0) := (blk_cell BK125.out 0).trans rfl; have hcz13_1 : w11.cell? ⟨gb125, 1, none⟩ = some (.slice A0_1 l0_1.length c0_1) := (blk_cell BK125.out 1).trans rfl; have hcz13_2 : w11.cell? ⟨gb125, 2, none⟩ = some (.int .i64 a0_2) := (blk_cell BK125.out 2).trans rfl; have hfz13_0 := blk_frozen BK125.out 0; have hfz13_1 := blk_frozen BK125.out 1; have hfz13_2 := blk_frozen BK125.out 2; obtain ⟨Ao14, co14, eo14⟩ := Kd.R_slice HO132.out; subst eo14) | ((with_reducible refine gate_callee (f := 55) rfl ?_); refine goesL_ (some 16) rfl rfl Try.func55 qdc1_15 rfl #[.agg #[.slice Ao12 t127.length co12, .slice Ao14 t130.length co14, .int .i64 t133], .int .u64 a1, .int .i64 a2] rfl qdc1_10 ?_; (with_reducible refine (spec_l7Find.calls k _ _ t127 _ _ t130 t133 a1 a2 t134 t135 _ ?side1 ?side2 ?side3 ?side4 A5.out).mono ?_); (case side1 => exact (by refine (Kd.R_reads' (e := 2) (base := w.heap.size) (ok := fun k_ => True) (n := t127.length) (c := co12) ?_).2.2; exact (qdc1_8 HO129 BK125))); (case side2 => exact (Kd.R_reads' HO129.out).2.1); (case side3 => exact (by refine (Kd.R_reads' (e := 62) (base := w.heap.size) (ok := fun k_ => True) (n := t130.length) (c := co14) ?_).2.2; exact (qdc1_8 HO132 BK125))); (case side4 => exact (Kd.R_reads' HO132.out).2.1); rintro e w15 ⟨rfl, hb⟩; refine ⟨_, rfl, ?_⟩; have n0_ := Aside0.mk (Kd.R_below (qdc1_8 HO129 BK125) hb); have n1_ := Aside0.mk (Kd.R_below (qdc1_8 HO132 BK125) hb); have n2_ := Aside0.mk (blk_below (g := gb125) (o := .cells #[.slice Ao12 t127.length co12, .slice Ao14 t130.length co14, .int .i64 t133] 25 (0, 0)) (by (with_reducible repeat (first | refine blk_drewN ?_ _ | refine blk_drew ?_ | refine blk_alloc ?_ _)); refine blk_put (cs := #[.slice Ao12 t127.length co12, .slice Ao14 t130.length co14, .int .i64 a0_2]) ?_ 2 _ rfl; (with_reducible repeat (first | refine blk_drewN ?_ _ | refine blk_drew ?_ | refine blk_alloc ?_ _)); refine blk_put (cs := #[.slice Ao12 t127.length co12, .slice A0_1 l0_1.length c0_1, .int .i64 a0_2]) ?_ 1 _ rfl; (with_reducible repeat (first | refine blk_drewN ?_ _ | refine blk_drew ?_ | refine blk_alloc ?_ _)); refine blk_put (cs := #[.slice A0_0 l0_0.length c0_0, .slice A0_1 l0_1.length c0_1, .int .i64 a0_2]) ?_ 0 _ rfl; (with_reducible repeat (first | refine blk_drewN ?_ _ | refine blk_drew ?_ | refine blk_alloc ?_ _)); exact BK125.out) hb); have n3_ := Aside0.mk (blk_below (g := gb126) (o := .cells #[.slice none 0 0, .slice none 0 0, .int .i64 0] 25 (0, 0)) (qdc1_13 NB126_125 BK126) hb); have n4_ := Aside0.mk (below_step (qdc1_1 HB GE125 GE126) hb); clear HO129; clear HO132; clear BK125; clear BK126; clear HB; have HO129 := n0_; have HO132 := n1_; have BK125 := n2_; have BK126 := n3_; have HB := n4_; clear n0_ n1_ n2_ n3_ n4_; (try clear hb); (try clear hb2); (try clear hk); (try clear hi); have hcz16_0 : w15.cell? ⟨gb125, 0, none⟩ = some (.slice Ao12 t127.length co12) := (blk_cell BK125.out 0).trans rfl; have hcz16_1 : w15.cell? ⟨gb125, 1, none⟩ = some (.slice Ao14 t130.length co14) := (blk_cell BK125.out 1).trans rfl; have hcz16_2 : w15.cell? ⟨gb125, 2, none⟩ = some (.int .i64 t133) := (blk_cell BK125.out 2).trans rfl; have hfz16_0 := blk_frozen BK125.out 0; have hfz16_1 := blk_frozen BK125.out 1; have hfz16_2 := blk_frozen BK125.out 2; have hcz17_0 : w15.cell? ⟨gb126, 0, none⟩ = some (.slice none 0 0) := (blk_cell BK126.out 0).trans rfl; have hcz17_1 : w15.cell? ⟨gb126, 1, none⟩ = some (.slice none 0 0) := (blk_cell BK126.out 1).trans rfl; have hcz17_2 : w15.cell? ⟨gb126, 2, none⟩ = some (.int .i64 0) := (blk_cell BK126.out 2).trans rfl; have hfz17_0 := blk_frozen BK126.out 0; have hfz17_1 := blk_frozen BK126.out 1; have hfz17_2 := blk_frozen BK126.out 2))
  refine bodyPost_ret (results_ct rfl _ _ gb126 25 #[.slice Ao12 t127.length co12, .slice Ao14 t130.length co14, .int .i64 t133] (0, 0) _ rfl (by (with_reducible repeat (first | refine blk_drewN ?_ _ | refine blk_drew ?_ | refine blk_alloc ?_ _)); refine blk_put (cs := #[.slice Ao12 t127.length co12, .slice Ao14 t130.length co14, .int .i64 0]) ?_ 2 _ rfl; (with_reducible repeat (first | refine blk_drewN ?_ _ | refine blk_drew ?_ | refine blk_alloc ?_ _)); refine blk_put (cs := #[.slice Ao12 t127.length co12, .slice none 0 0, .int .i64 0]) ?_ 1 _ rfl; (with_reducible repeat (first | refine blk_drewN ?_ _ | refine blk_drew ?_ | refine blk_alloc ?_ _)); refine blk_put (cs := #[.slice none 0 0, .slice none 0 0, .int .i64 0]) ?_ 0 _ rfl; (with_reducible repeat (first | refine blk_drewN ?_ _ | refine blk_drew ?_ | refine blk_alloc ?_ _)); exact BK126.out) Try.underlying25 rfl qdc1_15) rfl ?_
  exact ⟨_, _, by first | rfl | (simp [errW_none, errW_some] <;> rfl) | (simp [*, errW_none, errW_some] <;> rfl), by (with_reducible repeat (first | apply Kd.R_alloc | apply Kd.R_drewN | apply Kd.R_drew)); exact Kd.R_mono (Kd.R_far (p := ⟨gb126, 2, none⟩) (Kd.R_far (p := ⟨gb126, 1, none⟩) (Kd.R_far (p := ⟨gb126, 0, none⟩) (Kd.R_types HO129.out BK126.out qdc1_16) (fun _ hk => hk.2) (.slice Ao12 t127.length co12)) (fun _ hk => hk.2) (.slice Ao14 t130.length co14)) (fun _ hk => hk.2) (.int .i64 t133)) (fun _ hk => trivial), by (with_reducible repeat (first | apply Kd.R_alloc | apply Kd.R_drewN | apply Kd.R_drew)); exact Kd.R_mono (Kd.R_far (p := ⟨gb126, 2, none⟩) (Kd.R_far (p := ⟨gb126, 1, none⟩) (Kd.R_far (p := ⟨gb126, 0, none⟩) (Kd.R_types HO132.out BK126.out qdc1_16) (fun _ hk => hk.2) (.slice Ao12 t127.length co12)) (fun _ hk => hk.2) (.slice Ao14 t130.length co14)) (fun _ hk => hk.2) (.int .i64 t133)) (fun _ hk => trivial), by repeat (first | (with_reducible first | exact HB.out | apply below_alloc | apply pw_below_drewN | apply below_drew1 | refine below_set ?_ GE125.out | refine below_set ?_ GE126.out) | exact HB.out)⟩
 ·rw [if_neg c6] at H
  have c6b0 : decide (t134 < 0) = false := decide_eq_false c6
  clear c6
  by_cases c18 : 0 ≤ t134
  ·rw [if_pos c18] at H
   have c18b0 : decide (0 ≤ t134) = true := decide_eq_true c18
   clear c18
   by_cases c19 : t134 < (t130.length : Int)
   ·rw [if_pos c19] at H
    have c19b0 : decide (t134 < (t130.length : Int)) = true := decide_eq_true c19
    clear c19
    obtain ⟨y136, hy136⟩ : ∃ y_ : List (S62), y_ = (t130.set (t134 : Int).toNat (⟨a1, 0, 0, true⟩ : S62)) := ⟨_, rfl⟩
    replace H : (some (t127, y136, wrap64 (t133 - 1), true)) = some (r1, r2, r3, r4) := by first | (rw [hy136]; with_reducible exact H) | (have H2_ := (Option.bind_some _ _).symm.trans H; rw [hy136]; with_reducible exact H2_) | (have H2_ := (Option.bind_some _ _).symm.trans H; with_reducible exact H2_) | with_reducible exact H | (rw [hy136]; exact H) | exact H
    have Ny136 := Aside0.mk hy136
    clear hy136
    simp only [Option.some.injEq, Prod.mk.injEq] at H
    obtain ⟨rfl, rfl, rfl, rfl⟩ := H
    go_enter Try.func61, Try.ntmps61
    go_wp2_with (first | ((with_reducible refine gate_dst (N := 3) rfl ?_); refine box_event ?hg (N := 3) ?hd (cs := #[.slice A0_0 l0_0.length c0_0, .slice A0_1 l0_1.length c0_1, .int .i64 a0_2]) (t := 25) ?hr ?_; (case hd => rfl); (case hg => rfl); (case hr => exact qdc1_11); intro gb125 hg w21 hbox hb; have n0_ := Aside0.mk (below_step (qdc1_5 HB) hb); have n1_ := Aside0.mk (hbox); have n2_ := Aside0.mk ((by rw [hg]; exact (below_size (qdc1_5 HB)) : w.heap.size ≤ gb125)); have n3_ := Aside0.mk ((by rw [hg]; exact (below_size (qdc1_5 HB)) : w.heap.size ≤ gb125)); clear HB; have HB := n0_; have BK125 := n1_; have GW125 := n2_; have GE125 := n3_; clear n0_ n1_ n2_ n3_; clear hb hbox hg) | ((with_reducible refine gate_dst (N := 6) rfl ?_); refine box_event ?hg (N := 6) ?hd (cs := #[.slice none 0 0, .slice none 0 0, .int .i64 0]) (t := 25) ?hr ?_; (case hd => rfl); (case hg => rfl); (case hr => exact qdc1_11); intro gb126 hg w22 hbox hb; have n0_ := Aside0.mk (blk_below (g := gb125) (o := .cells #[.slice A0_0 l0_0.length c0_0, .slice A0_1 l0_1.length c0_1, .int .i64 a0_2] 25 (0, 0)) (qdc1_2 BK125) hb); have n1_ := Aside0.mk (below_step (qdc1_4 HB GE125) hb); have n2_ := Aside0.mk (hbox); have n3_ := Aside0.mk ((by rw [hg]; exact (below_size (qdc1_4 HB GE125)) : w.heap.size ≤ gb126)); have n4_ := Aside0.mk ((by rw [hg]; exact (below_size (qdc1_4 HB GE125)) : w.heap.size ≤ gb126)); have n5_ := Aside0.mk ((by rw [hg]; exact Nat.ne_of_lt (blk_lt (g := gb125) (o := .cells #[.slice A0_0 l0_0.length c0_0, .slice A0_1 l0_1.length c0_1, .int .i64 a0_2] 25 (0, 0)) (qdc1_2 BK125)) : gb125 ≠ gb126)); have n6_ := Aside0.mk ((by rw [hg]; exact Nat.ne_of_gt (blk_lt (g := gb125) (o := .cells #[.slice A0_0 l0_0.length c0_0, .slice A0_1 l0_1.length c0_1, .int .i64 a0_2] 25 (0, 0)) (qdc1_2 BK125)) : gb126 ≠ gb125)); clear BK125; clear HB; have BK125 := n0_; have HB := n1_; have BK126 := n2_; have GW126 := n3_; have GE126 := n4_; have NB125_126 := n5_; have NB126_125 := n6_; clear n0_ n1_ n2_ n3_ n4_ n5_ n6_; clear hb hbox hg; have hnb23 := NB125_126.out; have hnc23 := NB126_125.out; have hcz24_0 : w22.cell? ⟨gb125, 0, none⟩ = some (.slice A0_0 l0_0.length c0_0) := (blk_cell BK125.out 0).trans rfl; have hcz24_1 : w22.cell? ⟨gb125, 1, none⟩ = some (.slice A0_1 l0_1.length c0_1) := (blk_cell BK125.out 1).trans rfl; have hcz24_2 : w22.cell? ⟨gb125, 2, none⟩ = some (.int .i64 a0_2) := (blk_cell BK125.out 2).trans rfl; have hfz24_0 := blk_frozen BK125.out 0; have hfz24_1 := blk_frozen BK125.out 1; have hfz24_2 := blk_frozen BK125.out 2) | ((with_reducible refine gate_callee (f := 74) rfl ?_); refine goesL_ (some 11) rfl rfl Try.func74 qdc1_15 rfl #[.agg #[.slice A0_0 l0_0.length c0_0, .slice A0_1 l0_1.length c0_1, .int .i64 a0_2]] rfl qdc1_10 ?_; (with_reducible refine (spec_l7Copy.calls _ _ l0_0 _ _ l0_1 a0_2 t127 t130 t133 _ ?side1 ?side2 ?side3 ?side4 A4.out).mono ?_); (case side1 => exact (qdc1_7 HR0_0 HB)); (case side2 => exact HC0_0.out); (case side3 => exact (qdc1_7 HR0_1 HB)); (case side4 => exact HC0_1.out); rintro e w25 ⟨v128, v131, rfl, ho0, ho1, hb⟩; refine ⟨_, rfl, ?_⟩; have n0_ := Aside0.mk (Kd.R_lower ho0 (below_size (qdc1_1 HB GE125 GE126))); have n1_ := Aside0.mk (Kd.R_lower ho1 (below_size (qdc1_1 HB GE125 GE126))); have n2_ := Aside0.mk (blk_below (g := gb125) (o := .cells #[.slice A0_0 l0_0.length c0_0, .slice A0_1 l0_1.length c0_1, .int .i64 a0_2] 25 (0, 0)) (qdc1_2 BK125) hb); have n3_ := Aside0.mk (blk_below (g := gb126) (o := .cells #[.slice none 0 0, .slice none 0 0, .int .i64 0] 25 (0, 0)) (qdc1_2 BK126) hb); have n4_ := Aside0.mk (below_step (qdc1_1 HB GE125 GE126) hb); clear BK125; clear BK126; clear HB; have HO129 := n0_; have HO132 := n1_; have BK125 := n2_; have BK126 := n3_; have HB := n4_; clear n0_ n1_ n2_ n3_ n4_; (try clear hb); (try clear hb2); (try clear hk); (try clear hi); (try clear ho0); (try clear ho1); obtain ⟨Ao26, co26, eo26⟩ := Kd.R_slice HO129.out; subst eo26; have hcz27_0 : w25.cell? ⟨gb125, 0, none⟩ = some (.slice A0_0 l0_0.length c0_0) := (blk_cell BK125.out 0).trans rfl; have hcz27_1 : w25.cell? ⟨gb125, 1, none⟩ = some (.slice A0_1 l0_1.length c0_1) := (blk_cell BK125.out 1).trans rfl; have hcz27_2 : w25.cell? ⟨gb125, 2, none⟩ = some (.int .i64 a0_2) := (blk_cell BK125.out 2).trans rfl; have hfz27_0 := blk_frozen BK125.out 0; have hfz27_1 := blk_frozen BK125.out 1; have hfz27_2 := blk_frozen BK125.out 2; obtain ⟨Ao28, co28, eo28⟩ := Kd.R_slice HO132.out; subst eo28) | ((with_reducible refine gate_callee (f := 55) rfl ?_); refine goesL_ (some 16) rfl rfl Try.func55 qdc1_15 rfl #[.agg #[.slice Ao26 t127.length co26, .slice Ao28 t130.length co28, .int .i64 t133], .int .u64 a1, .int .i64 a2] rfl qdc1_10 ?_; (with_reducible refine (spec_l7Find.calls k _ _ t127 _ _ t130 t133 a1 a2 t134 t135 _ ?side1 ?side2 ?side3 ?side4 A5.out).mono ?_); (case side1 => exact (by refine (Kd.R_reads' (e := 2) (base := w.heap.size) (ok := fun k_ => True) (n := t127.length) (c := co26) ?_).2.2; exact (qdc1_9 HO129 BK125))); (case side2 => exact (Kd.R_reads' HO129.out).2.1); (case side3 => exact (by refine (Kd.R_reads' (e := 62) (base := w.heap.size) (ok := fun k_ => True) (n := t130.length) (c := co28) ?_).2.2; exact (qdc1_9 HO132 BK125))); (case side4 => exact (Kd.R_reads' HO132.out).2.1); rintro e w29 ⟨rfl, hb⟩; refine ⟨_, rfl, ?_⟩; have n0_ := Aside0.mk (Kd.R_below (qdc1_9 HO129 BK125) hb); have n1_ := Aside0.mk (Kd.R_below (qdc1_9 HO132 BK125) hb); have n2_ := Aside0.mk (blk_below (g := gb125) (o := .cells #[.slice Ao26 t127.length co26, .slice Ao28 t130.length co28, .int .i64 t133] 25 (0, 0)) (by (with_reducible repeat (first | refine blk_drewN ?_ _ | refine blk_drew ?_ | refine blk_alloc ?_ _)); refine blk_put (cs := #[.slice Ao26 t127.length co26, .slice Ao28 t130.length co28, .int .i64 a0_2]) ?_ 2 _ rfl; (with_reducible repeat (first | refine blk_drewN ?_ _ | refine blk_drew ?_ | refine blk_alloc ?_ _)); refine blk_put (cs := #[.slice Ao26 t127.length co26, .slice A0_1 l0_1.length c0_1, .int .i64 a0_2]) ?_ 1 _ rfl; (with_reducible repeat (first | refine blk_drewN ?_ _ | refine blk_drew ?_ | refine blk_alloc ?_ _)); refine blk_put (cs := #[.slice A0_0 l0_0.length c0_0, .slice A0_1 l0_1.length c0_1, .int .i64 a0_2]) ?_ 0 _ rfl; (with_reducible repeat (first | refine blk_drewN ?_ _ | refine blk_drew ?_ | refine blk_alloc ?_ _)); exact BK125.out) hb); have n3_ := Aside0.mk (blk_below (g := gb126) (o := .cells #[.slice none 0 0, .slice none 0 0, .int .i64 0] 25 (0, 0)) (qdc1_13 NB126_125 BK126) hb); have n4_ := Aside0.mk (below_step (qdc1_1 HB GE125 GE126) hb); clear HO129; clear HO132; clear BK125; clear BK126; clear HB; have HO129 := n0_; have HO132 := n1_; have BK125 := n2_; have BK126 := n3_; have HB := n4_; clear n0_ n1_ n2_ n3_ n4_; (try clear hb); (try clear hb2); (try clear hk); (try clear hi); have hcz30_0 : w29.cell? ⟨gb125, 0, none⟩ = some (.slice Ao26 t127.length co26) := (blk_cell BK125.out 0).trans rfl; have hcz30_1 : w29.cell? ⟨gb125, 1, none⟩ = some (.slice Ao28 t130.length co28) := (blk_cell BK125.out 1).trans rfl; have hcz30_2 : w29.cell? ⟨gb125, 2, none⟩ = some (.int .i64 t133) := (blk_cell BK125.out 2).trans rfl; have hfz30_0 := blk_frozen BK125.out 0; have hfz30_1 := blk_frozen BK125.out 1; have hfz30_2 := blk_frozen BK125.out 2; have p20 : 0 ≤ (t134 : Int) := of_decide_eq_true qdc1_6; have q20 : (t134 : Int) < ((t130.length : Int) : Int) := of_decide_eq_true qdc1_6; obtain ⟨go20, co20, eo20, gb20, gl20, cl20, HG20⟩ := Kd.R_form HO132.out (by omega); (first | cases eo20 | (injection eo20 with ea_ en_ ec_; (first | subst ea_ | (injection ea_ with ea_; subst ea_)); subst ec_; clear en_)); have GB20 := Aside0.mk gb20; have GG20 := Aside0.mk HG20; clear gb20 gl20 HG20; obtain ⟨ce20, hcl20, hM20, hcc20, hfr20⟩ := Kd.R_elem HO132.out z62 (t134 : Int) p20 q20; obtain rfl := k62_openM hM20; have hx20_0 : w29.cell? ⟨go20, (t134 : Int).toNat * 4, none⟩ = some (.int .u64 ((rd_T62 t130 t134).f0)) := hcc20 0 _ rfl; have hx20_1 : w29.cell? ⟨go20, (t134 : Int).toNat * 4 + 1, none⟩ = some (.int .i64 ((rd_T62 t130 t134).f1)) := hcc20 1 _ rfl; have hx20_2 : w29.cell? ⟨go20, (t134 : Int).toNat * 4 + 2, none⟩ = some (.int .i64 ((rd_T62 t130 t134).f2)) := hcc20 2 _ rfl; have hx20_3 : w29.cell? ⟨go20, (t134 : Int).toNat * 4 + 3, none⟩ = some (.bool ((rd_T62 t130 t134).f3)) := hcc20 3 _ rfl; have hf20_0 : w29.frozen? ⟨go20, (t134 : Int).toNat * 4, none⟩ = false := hfr20 0; have hf20_1 : w29.frozen? ⟨go20, (t134 : Int).toNat * 4 + 1, none⟩ = false := hfr20 1; have hf20_2 : w29.frozen? ⟨go20, (t134 : Int).toNat * 4 + 2, none⟩ = false := hfr20 2; have hf20_3 : w29.frozen? ⟨go20, (t134 : Int).toNat * 4 + 3, none⟩ = false := hfr20 3; clear hcl20 hcc20 hfr20 hM20; replace p20 := eq_true p20; replace q20 := eq_true q20; have HX31 := Aside0.mk (show Kd.R k62 62 w29 w.heap.size (fun _ => True) (.slice (some ⟨go20, 0, none⟩) t130.length co28) t130 from (qdc1_3 HO132)); obtain ⟨ce31, hcl31, hM31, hcc31, hfr31⟩ := Kd.R_elem HX31.out z62 (t134 : Int) (of_decide_eq_true qdc1_6) (by have h_ : (t134 : Int) < ((t130.length : Int) : Int) := of_decide_eq_true qdc1_6; first | exact h_ | (have e_ := (Kd.R_reads' HO132.out).1; omega) | simpa using h_); obtain rfl := k62_openM hM31; have HP31 := Kd.R_seg HX31.out (t134 : Int) (of_decide_eq_true qdc1_6) (by have h_ : (t134 : Int) < ((t130.length : Int) : Int) := of_decide_eq_true qdc1_6; first | exact h_ | (have e_ := (Kd.R_reads' HO132.out).1; omega) | simpa using h_) (seg := [.int .u64 a1, .int .i64 0, .int .i64 0, .bool true]) (j := 0) hcl31 hcc31 (show 4 ≤ 4 from by decide) (x' := (⟨a1, 0, 0, true⟩ : S62)) (k62_mkM _ _ _ (⟨a1, 0, 0, true⟩ : S62) ) (fun _ hk => hk); have hx31_0 := hcc31 0 _ rfl; (try simp only [show (k62).sz = 4 from rfl, Nat.mul_one, Nat.add_zero] at hx31_0); have hf31_0 := hfr31 0; (try simp only [show (k62).sz = 4 from rfl, Nat.mul_one, Nat.add_zero] at hf31_0); have hx31_1 := hcc31 1 _ rfl; (try simp only [show (k62).sz = 4 from rfl, Nat.mul_one, Nat.add_zero] at hx31_1); have hf31_1 := hfr31 1; (try simp only [show (k62).sz = 4 from rfl, Nat.mul_one, Nat.add_zero] at hf31_1); have hx31_2 := hcc31 2 _ rfl; (try simp only [show (k62).sz = 4 from rfl, Nat.mul_one, Nat.add_zero] at hx31_2); have hf31_2 := hfr31 2; (try simp only [show (k62).sz = 4 from rfl, Nat.mul_one, Nat.add_zero] at hf31_2); have hx31_3 := hcc31 3 _ rfl; (try simp only [show (k62).sz = 4 from rfl, Nat.mul_one, Nat.add_zero] at hx31_3); have hf31_3 := hfr31 3; (try simp only [show (k62).sz = 4 from rfl, Nat.mul_one, Nat.add_zero] at hf31_3); clear hcl31 hcc31 hfr31 hM31) | ((with_reducible refine gate_store (t := 62) (p := 27) rfl ?_); refine store_event (t := 62) (p := 27) (v := ?vo_w32) (w1 := ((((w29.setCell ⟨go20, (t134 : Int).toNat * 4, none⟩ (.int .u64 a1)).setCell ⟨go20, (t134 : Int).toNat * 4 + 1, none⟩ (.int .i64 0)).setCell ⟨go20, (t134 : Int).toNat * 4 + 2, none⟩ (.int .i64 0)).setCell ⟨go20, (t134 : Int).toNat * 4 + 3, none⟩ (.bool true))) ?hg ?ho ?hn ?hr ?_; (case ho => rfl); (case hg => rfl); (case hn => rfl); (case hr => exact qdc1_11); intro w32 hw; have hg : w29.grownBy w32 (some go20) := (by rw [hw]; exact HP31.2); have hp_ : Kd.R k62 62 w32 w.heap.size (fun _ => True) (.slice (some ⟨go20, 0, none⟩) t130.length co28) y136 := (by rw [hw, Ny136.out]; exact HP31.1); clear HP31; have n0_ := Aside0.mk (blk_grown (g := gb125) (o := .cells #[.slice Ao26 t127.length co26, .slice (some ⟨go20, 0, none⟩) t130.length co28, .int .i64 t133] 25 (0, 0)) (qdc1_2 BK125) hg (Kd.R_ne HO132.out BK125.out qdc1_16)); have n1_ := Aside0.mk (blk_grown (g := gb126) (o := .cells #[.slice none 0 0, .slice none 0 0, .int .i64 0] 25 (0, 0)) (qdc1_2 BK126) hg (Kd.R_ne HO132.out BK126.out qdc1_16)); have n2_ := Aside0.mk (Kd.R_over' (v := (.slice (some ⟨go20, 0, none⟩) t130.length co28)) (qdc1_3 HO129) (Kd.R_typed HO132.out) qdc1_16 hg); have n3_ := Aside0.mk (hp_); have n4_ := Aside0.mk ((by rw [hw]; exact below_set (below_set (below_set (below_set (HB.out) GB20.out) GB20.out) GB20.out) GB20.out : Below w.heap.size w w32)); clear BK125; clear BK126; clear HO129; clear HO132; clear HB; have BK125 := n0_; have BK126 := n1_; have HO129 := n2_; have HO132 := n3_; have HB := n4_; clear n0_ n1_ n2_ n3_ n4_; clear hg hw hp_; have hcz33_0 : w32.cell? ⟨gb125, 0, none⟩ = some (.slice Ao26 t127.length co26) := (blk_cell BK125.out 0).trans rfl; have hcz33_1 : w32.cell? ⟨gb125, 1, none⟩ = some (.slice (some ⟨go20, 0, none⟩) t130.length co28) := (blk_cell BK125.out 1).trans rfl; have hcz33_2 : w32.cell? ⟨gb125, 2, none⟩ = some (.int .i64 t133) := (blk_cell BK125.out 2).trans rfl; have hfz33_0 := blk_frozen BK125.out 0; have hfz33_1 := blk_frozen BK125.out 1; have hfz33_2 := blk_frozen BK125.out 2; have hcz34_0 : w32.cell? ⟨gb126, 0, none⟩ = some (.slice none 0 0) := (blk_cell BK126.out 0).trans rfl; have hcz34_1 : w32.cell? ⟨gb126, 1, none⟩ = some (.slice none 0 0) := (blk_cell BK126.out 1).trans rfl; have hcz34_2 : w32.cell? ⟨gb126, 2, none⟩ = some (.int .i64 0) := (blk_cell BK126.out 2).trans rfl; have hfz34_0 := blk_frozen BK126.out 0; have hfz34_1 := blk_frozen BK126.out 1; have hfz34_2 := blk_frozen BK126.out 2))
    refine bodyPost_ret (results_ct rfl _ _ gb126 25 #[.slice Ao26 t127.length co26, .slice (some ⟨go20, 0, none⟩) t130.length co28, .int .i64 (wrap64 (t133 - 1))] (0, 0) _ rfl (by (with_reducible repeat (first | refine blk_drewN ?_ _ | refine blk_drew ?_ | refine blk_alloc ?_ _)); refine blk_put (cs := #[.slice Ao26 t127.length co26, .slice (some ⟨go20, 0, none⟩) t130.length co28, .int .i64 0]) ?_ 2 _ rfl; (with_reducible repeat (first | refine blk_drewN ?_ _ | refine blk_drew ?_ | refine blk_alloc ?_ _)); refine blk_put (cs := #[.slice Ao26 t127.length co26, .slice none 0 0, .int .i64 0]) ?_ 1 _ rfl; (with_reducible repeat (first | refine blk_drewN ?_ _ | refine blk_drew ?_ | refine blk_alloc ?_ _)); refine blk_put (cs := #[.slice none 0 0, .slice none 0 0, .int .i64 0]) ?_ 0 _ rfl; (with_reducible repeat (first | refine blk_drewN ?_ _ | refine blk_drew ?_ | refine blk_alloc ?_ _)); refine blk_far ?_ NB126_125.out _; (with_reducible repeat (first | refine blk_drewN ?_ _ | refine blk_drew ?_ | refine blk_alloc ?_ _)); exact BK126.out) Try.underlying25 rfl qdc1_15) rfl ?_
    exact ⟨_, _, by first | rfl | (simp [errW_none, errW_some] <;> rfl) | (simp [*, errW_none, errW_some] <;> rfl), by (with_reducible repeat (first | apply Kd.R_alloc | apply Kd.R_drewN | apply Kd.R_drew)); exact Kd.R_mono (Kd.R_far (p := ⟨gb126, 2, none⟩) (Kd.R_far (p := ⟨gb126, 1, none⟩) (Kd.R_far (p := ⟨gb126, 0, none⟩) (Kd.R_far (p := ⟨gb125, 2, none⟩) (Kd.R_types (Kd.R_types HO129.out BK125.out qdc1_16) BK126.out qdc1_16) (fun _ hk => hk.1.2) (.int .i64 (wrap64 (t133 - 1)))) (fun _ hk => hk.2) (.slice Ao26 t127.length co26)) (fun _ hk => hk.2) (.slice (some ⟨go20, 0, none⟩) t130.length co28)) (fun _ hk => hk.2) (.int .i64 (wrap64 (t133 - 1)))) (fun _ hk => trivial), by (with_reducible repeat (first | apply Kd.R_alloc | apply Kd.R_drewN | apply Kd.R_drew)); exact Kd.R_mono (Kd.R_far (p := ⟨gb126, 2, none⟩) (Kd.R_far (p := ⟨gb126, 1, none⟩) (Kd.R_far (p := ⟨gb126, 0, none⟩) (Kd.R_far (p := ⟨gb125, 2, none⟩) (Kd.R_types (Kd.R_types HO132.out BK125.out qdc1_16) BK126.out qdc1_16) (fun _ hk => hk.1.2) (.int .i64 (wrap64 (t133 - 1)))) (fun _ hk => hk.2) (.slice Ao26 t127.length co26)) (fun _ hk => hk.2) (.slice (some ⟨go20, 0, none⟩) t130.length co28)) (fun _ hk => hk.2) (.int .i64 (wrap64 (t133 - 1)))) (fun _ hk => trivial), by repeat (first | (with_reducible first | exact HB.out | apply below_alloc | apply pw_below_drewN | apply below_drew1 | refine below_set ?_ GE125.out | refine below_set ?_ GE126.out) | exact HB.out)⟩
   ·rw [if_neg c19] at H
    exact absurd H (by simp)
  ·rw [if_neg c18] at H
   exact absurd H (by simp)

/-! ### spec_DictCut: function 33 -/
def spec_DictCut.f (k : Nat) (l0_0 : List Int) (l0_1 : List (S62)) (a0_2 : Int) (a1 : Int) (a2 : Int) : Option (List Int × (List (S62)) × Int × Bool) := (spec_DictOk.f k l0_0 l0_1 a0_2).bind fun t139 => (if t139 = true then ((spec_l7Cut.f k l0_0 l0_1 a0_2 a1 a2).bind fun bt140 => (some (bt140.1, bt140.2.1, bt140.2.2.1, bt140.2.2.2))) else (some (([] : List Int), ([] : List (S62)), 0, false)))
theorem spec_DictCut.mono : ∀ a0 a1 a2 a3 a4 k, LeO (spec_DictCut.f k a0 a1 a2 a3 a4) (spec_DictCut.f (k + 1) a0 a1 a2 a3 a4) := by
 intro a0 a1 a2 a3 a4 k
 unfold spec_DictCut.f
 repeat' first
   | (with_reducible exact spec_DictOk.mono _ _ _ _)
   | (with_reducible exact spec_l7Cut.mono _ _ _ _ _ _)
   | (with_reducible exact LeO.refl _)
   | (with_reducible exact LeO.none _)
   | (with_reducible refine LeO.ite ?_ ?_)
   | (with_reducible refine LeO.bind ?_ (fun _ => ?_))
   | exact spec_DictOk.mono _ _ _ _
   | exact spec_l7Cut.mono _ _ _ _ _ _
   | exact LeO.none _
   | refine LeO.ite ?_ ?_
   | refine LeO.bind ?_ (fun _ => ?_)
set_option maxHeartbeats 8000000 in
set_option maxRecDepth 100000 in
theorem spec_DictCut.calls (k : Nat) (A0_0 : Option Addr) (c0_0 : Nat) (l0_0 : List Int) (A0_1 : Option Addr) (c0_1 : Nat) (l0_1 : List (S62)) (a0_2 : Int) (a1 : Int) (a2 : Int) (r1 : List Int) (r2 : List (S62)) (r3 : Int) (r4 : Bool) (w : World) (hr0_0 : Kd.C (Kd.int .i64) w A0_0 l0_0.length l0_0) (hc0_0 : l0_0.length ≤ c0_0) (hr0_1 : Kd.C k62 w A0_1 l0_1.length l0_1) (hc0_1 : l0_1.length ≤ c0_1) (h : spec_DictCut.f k l0_0 l0_1 a0_2 a1 a2 = some (r1, r2, r3, r4)) :
  Calls Try.prog 33 #[.agg #[.slice A0_0 l0_0.length c0_0, .slice A0_1 l0_1.length c0_1, .int .i64 a0_2], .int .u64 a1, .int .i64 a2] w fun e w' => ∃ v0_ v1_ : Value, e = .returned (.tuple #[.agg #[v0_, v1_, .int .i64 r3], .bool r4]) ∧ Kd.R (Kd.int .i64) 2 w' w.heap.size (fun _ => True) v0_ r1 ∧ Kd.R k62 62 w' w.heap.size (fun _ => True) v1_ r2 ∧ Below w.heap.size w w' := by
 have hu25 := Try.underlying25
 have HR0_0 := Aside0.mk hr0_0
 have HC0_0 := Aside0.mk hc0_0
 clear hr0_0 hc0_0
 have HR0_1 := Aside0.mk hr0_1
 have HC0_1 := Aside0.mk hc0_1
 clear hr0_1 hc0_1
 have HB := Aside0.mk (Below.refl w.heap.size w)
 have H : ((spec_DictOk.f k l0_0 l0_1 a0_2).bind fun t139 => (if t139 = true then ((spec_l7Cut.f k l0_0 l0_1 a0_2 a1 a2).bind fun bt140 => (some (bt140.1, bt140.2.1, bt140.2.2.1, bt140.2.2.2))) else (some (([] : List Int), ([] : List (S62)), 0, false)))) = some (r1, r2, r3, r4) := h
 clear h
 replace H := Option.bind_eq_some_iff.mp H
 obtain ⟨t139, A40, H⟩ := H
 replace H : (if t139 = true then ((spec_l7Cut.f k l0_0 l0_1 a0_2 a1 a2).bind fun bt140 => (some (bt140.1, bt140.2.1, bt140.2.2.1, bt140.2.2.2))) else (some (([] : List Int), ([] : List (S62)), 0, false))) = some (r1, r2, r3, r4) := H
 have A4 := Aside0.mk A40
 clear A40
 by_cases c5 : t139 = true
 ·subst c5
  have H1 : ((spec_l7Cut.f k l0_0 l0_1 a0_2 a1 a2).bind fun bt140 => (some (bt140.1, bt140.2.1, bt140.2.2.1, bt140.2.2.2))) = some (r1, r2, r3, r4) := by rw [if_pos rfl] at H; exact H
  clear H
  have H := H1
  clear H1
  replace H := Option.bind_eq_some_iff.mp H
  obtain ⟨⟨t140, t143, t146, t147⟩, A60, H⟩ := H
  replace H : (some (t140, t143, t146, t147)) = some (r1, r2, r3, r4) := H
  have A6 := Aside0.mk A60
  clear A60
  simp only [Option.some.injEq, Prod.mk.injEq] at H
  obtain ⟨rfl, rfl, rfl, rfl⟩ := H
  go_enter Try.func33, Try.ntmps33
  go_wp2_with (first | ((with_reducible refine gate_dst (N := 3) rfl ?_); refine box_event ?hg (N := 3) ?hd (cs := #[.slice A0_0 l0_0.length c0_0, .slice A0_1 l0_1.length c0_1, .int .i64 a0_2]) (t := 25) ?hr ?_; (case hd => rfl); (case hg => rfl); (case hr => exact qdc1_11); intro gb137 hg w7 hbox hb; have n0_ := Aside0.mk (below_step (qdc1_5 HB) hb); have n1_ := Aside0.mk (hbox); have n2_ := Aside0.mk ((by rw [hg]; exact (below_size (qdc1_5 HB)) : w.heap.size ≤ gb137)); have n3_ := Aside0.mk ((by rw [hg]; exact (below_size (qdc1_5 HB)) : w.heap.size ≤ gb137)); clear HB; have HB := n0_; have BK137 := n1_; have GW137 := n2_; have GE137 := n3_; clear n0_ n1_ n2_ n3_; clear hb hbox hg) | ((with_reducible refine gate_dst (N := 6) rfl ?_); refine box_event ?hg (N := 6) ?hd (cs := #[.slice none 0 0, .slice none 0 0, .int .i64 0]) (t := 25) ?hr ?_; (case hd => rfl); (case hg => rfl); (case hr => exact qdc1_11); intro gb138 hg w8 hbox hb; have n0_ := Aside0.mk (blk_below (g := gb137) (o := .cells #[.slice A0_0 l0_0.length c0_0, .slice A0_1 l0_1.length c0_1, .int .i64 a0_2] 25 (0, 0)) (qdc1_2 BK137) hb); have n1_ := Aside0.mk (below_step (qdc1_4 HB GE137) hb); have n2_ := Aside0.mk (hbox); have n3_ := Aside0.mk ((by rw [hg]; exact (below_size (qdc1_4 HB GE137)) : w.heap.size ≤ gb138)); have n4_ := Aside0.mk ((by rw [hg]; exact (below_size (qdc1_4 HB GE137)) : w.heap.size ≤ gb138)); have n5_ := Aside0.mk ((by rw [hg]; exact Nat.ne_of_lt (blk_lt (g := gb137) (o := .cells #[.slice A0_0 l0_0.length c0_0, .slice A0_1 l0_1.length c0_1, .int .i64 a0_2] 25 (0, 0)) (qdc1_2 BK137)) : gb137 ≠ gb138)); have n6_ := Aside0.mk ((by rw [hg]; exact Nat.ne_of_gt (blk_lt (g := gb137) (o := .cells #[.slice A0_0 l0_0.length c0_0, .slice A0_1 l0_1.length c0_1, .int .i64 a0_2] 25 (0, 0)) (qdc1_2 BK137)) : gb138 ≠ gb137)); clear BK137; clear HB; have BK137 := n0_; have HB := n1_; have BK138 := n2_; have GW138 := n3_; have GE138 := n4_; have NB137_138 := n5_; have NB138_137 := n6_; clear n0_ n1_ n2_ n3_ n4_ n5_ n6_; clear hb hbox hg; have hnb9 := NB137_138.out; have hnc9 := NB138_137.out; have hcz10_0 : w8.cell? ⟨gb137, 0, none⟩ = some (.slice A0_0 l0_0.length c0_0) := (blk_cell BK137.out 0).trans rfl; have hcz10_1 : w8.cell? ⟨gb137, 1, none⟩ = some (.slice A0_1 l0_1.length c0_1) := (blk_cell BK137.out 1).trans rfl; have hcz10_2 : w8.cell? ⟨gb137, 2, none⟩ = some (.int .i64 a0_2) := (blk_cell BK137.out 2).trans rfl; have hfz10_0 := blk_frozen BK137.out 0; have hfz10_1 := blk_frozen BK137.out 1; have hfz10_2 := blk_frozen BK137.out 2) | ((with_reducible refine gate_callee (f := 20) rfl ?_); refine goesL_ (some 9) rfl rfl Try.func20 qdc1_15 rfl #[.agg #[.slice A0_0 l0_0.length c0_0, .slice A0_1 l0_1.length c0_1, .int .i64 a0_2]] rfl qdc1_10 ?_; (with_reducible refine (spec_DictOk.calls k _ _ l0_0 _ _ l0_1 a0_2 true _ ?side1 ?side2 ?side3 ?side4 A4.out).mono ?_); (case side1 => exact (qdc1_7 HR0_0 HB)); (case side2 => exact HC0_0.out); (case side3 => exact (qdc1_7 HR0_1 HB)); (case side4 => exact HC0_1.out); rintro e w11 ⟨rfl, hb⟩; refine ⟨_, rfl, ?_⟩; have n0_ := Aside0.mk (blk_below (g := gb137) (o := .cells #[.slice A0_0 l0_0.length c0_0, .slice A0_1 l0_1.length c0_1, .int .i64 a0_2] 25 (0, 0)) (qdc1_2 BK137) hb); have n1_ := Aside0.mk (blk_below (g := gb138) (o := .cells #[.slice none 0 0, .slice none 0 0, .int .i64 0] 25 (0, 0)) (qdc1_2 BK138) hb); have n2_ := Aside0.mk (below_step (qdc1_1 HB GE137 GE138) hb); clear BK137; clear BK138; clear HB; have BK137 := n0_; have BK138 := n1_; have HB := n2_; clear n0_ n1_ n2_; (try clear hb); (try clear hb2); (try clear hk); (try clear hi); have hcz12_0 : w11.cell? ⟨gb137, 0, none⟩ = some (.slice A0_0 l0_0.length c0_0) := (blk_cell BK137.out 0).trans rfl; have hcz12_1 : w11.cell? ⟨gb137, 1, none⟩ = some (.slice A0_1 l0_1.length c0_1) := (blk_cell BK137.out 1).trans rfl; have hcz12_2 : w11.cell? ⟨gb137, 2, none⟩ = some (.int .i64 a0_2) := (blk_cell BK137.out 2).trans rfl; have hfz12_0 := blk_frozen BK137.out 0; have hfz12_1 := blk_frozen BK137.out 1; have hfz12_2 := blk_frozen BK137.out 2) | ((with_reducible refine gate_callee (f := 61) rfl ?_); refine goesL_ (some 15) rfl rfl Try.func61 qdc1_15 rfl #[.agg #[.slice A0_0 l0_0.length c0_0, .slice A0_1 l0_1.length c0_1, .int .i64 a0_2], .int .u64 a1, .int .i64 a2] rfl qdc1_10 ?_; (with_reducible refine (spec_l7Cut.calls k _ _ l0_0 _ _ l0_1 a0_2 a1 a2 t140 t143 t146 t147 _ ?side1 ?side2 ?side3 ?side4 A6.out).mono ?_); (case side1 => exact (qdc1_7 HR0_0 HB)); (case side2 => exact HC0_0.out); (case side3 => exact (qdc1_7 HR0_1 HB)); (case side4 => exact HC0_1.out); rintro e w13 ⟨v141, v144, rfl, ho0, ho1, hb⟩; refine ⟨_, rfl, ?_⟩; have n0_ := Aside0.mk (Kd.R_lower ho0 (below_size (qdc1_1 HB GE137 GE138))); have n1_ := Aside0.mk (Kd.R_lower ho1 (below_size (qdc1_1 HB GE137 GE138))); have n2_ := Aside0.mk (blk_below (g := gb137) (o := .cells #[.slice A0_0 l0_0.length c0_0, .slice A0_1 l0_1.length c0_1, .int .i64 a0_2] 25 (0, 0)) (qdc1_2 BK137) hb); have n3_ := Aside0.mk (blk_below (g := gb138) (o := .cells #[.slice none 0 0, .slice none 0 0, .int .i64 0] 25 (0, 0)) (qdc1_2 BK138) hb); have n4_ := Aside0.mk (below_step (qdc1_1 HB GE137 GE138) hb); clear BK137; clear BK138; clear HB; have HO142 := n0_; have HO145 := n1_; have BK137 := n2_; have BK138 := n3_; have HB := n4_; clear n0_ n1_ n2_ n3_ n4_; (try clear hb); (try clear hb2); (try clear hk); (try clear hi); (try clear ho0); (try clear ho1); obtain ⟨Ao14, co14, eo14⟩ := Kd.R_slice HO142.out; subst eo14; have hcz15_0 : w13.cell? ⟨gb138, 0, none⟩ = some (.slice none 0 0) := (blk_cell BK138.out 0).trans rfl; have hcz15_1 : w13.cell? ⟨gb138, 1, none⟩ = some (.slice none 0 0) := (blk_cell BK138.out 1).trans rfl; have hcz15_2 : w13.cell? ⟨gb138, 2, none⟩ = some (.int .i64 0) := (blk_cell BK138.out 2).trans rfl; have hfz15_0 := blk_frozen BK138.out 0; have hfz15_1 := blk_frozen BK138.out 1; have hfz15_2 := blk_frozen BK138.out 2; obtain ⟨Ao16, co16, eo16⟩ := Kd.R_slice HO145.out; subst eo16))
  refine bodyPost_ret (results_ct rfl _ _ gb138 25 #[.slice Ao14 t140.length co14, .slice Ao16 t143.length co16, .int .i64 t146] (0, 0) _ rfl (by (with_reducible repeat (first | refine blk_drewN ?_ _ | refine blk_drew ?_ | refine blk_alloc ?_ _)); refine blk_put (cs := #[.slice Ao14 t140.length co14, .slice Ao16 t143.length co16, .int .i64 0]) ?_ 2 _ rfl; (with_reducible repeat (first | refine blk_drewN ?_ _ | refine blk_drew ?_ | refine blk_alloc ?_ _)); refine blk_put (cs := #[.slice Ao14 t140.length co14, .slice none 0 0, .int .i64 0]) ?_ 1 _ rfl; (with_reducible repeat (first | refine blk_drewN ?_ _ | refine blk_drew ?_ | refine blk_alloc ?_ _)); refine blk_put (cs := #[.slice none 0 0, .slice none 0 0, .int .i64 0]) ?_ 0 _ rfl; (with_reducible repeat (first | refine blk_drewN ?_ _ | refine blk_drew ?_ | refine blk_alloc ?_ _)); exact BK138.out) Try.underlying25 rfl qdc1_15) rfl ?_
  exact ⟨_, _, by first | rfl | (simp [errW_none, errW_some] <;> rfl) | (simp [*, errW_none, errW_some] <;> rfl), by (with_reducible repeat (first | apply Kd.R_alloc | apply Kd.R_drewN | apply Kd.R_drew)); exact Kd.R_mono (Kd.R_far (p := ⟨gb138, 2, none⟩) (Kd.R_far (p := ⟨gb138, 1, none⟩) (Kd.R_far (p := ⟨gb138, 0, none⟩) (Kd.R_types HO142.out BK138.out qdc1_16) (fun _ hk => hk.2) (.slice Ao14 t140.length co14)) (fun _ hk => hk.2) (.slice Ao16 t143.length co16)) (fun _ hk => hk.2) (.int .i64 t146)) (fun _ hk => trivial), by (with_reducible repeat (first | apply Kd.R_alloc | apply Kd.R_drewN | apply Kd.R_drew)); exact Kd.R_mono (Kd.R_far (p := ⟨gb138, 2, none⟩) (Kd.R_far (p := ⟨gb138, 1, none⟩) (Kd.R_far (p := ⟨gb138, 0, none⟩) (Kd.R_types HO145.out BK138.out qdc1_16) (fun _ hk => hk.2) (.slice Ao14 t140.length co14)) (fun _ hk => hk.2) (.slice Ao16 t143.length co16)) (fun _ hk => hk.2) (.int .i64 t146)) (fun _ hk => trivial), by repeat (first | (with_reducible first | exact HB.out | apply below_alloc | apply pw_below_drewN | apply below_drew1 | refine below_set ?_ GE137.out | refine below_set ?_ GE138.out) | exact HB.out)⟩
 ·replace c5 := Bool.eq_false_iff.mpr c5
  subst c5
  have H1 : (some (([] : List Int), ([] : List (S62)), 0, false)) = some (r1, r2, r3, r4) := by rw [if_neg (show ¬ (false = true) by decide)] at H; exact H
  clear H
  have H := H1
  clear H1
  simp only [Option.some.injEq, Prod.mk.injEq] at H
  obtain ⟨rfl, rfl, rfl, rfl⟩ := H
  go_enter Try.func33, Try.ntmps33
  go_wp2_with (first | ((with_reducible refine gate_dst (N := 3) rfl ?_); refine box_event ?hg (N := 3) ?hd (cs := #[.slice A0_0 l0_0.length c0_0, .slice A0_1 l0_1.length c0_1, .int .i64 a0_2]) (t := 25) ?hr ?_; (case hd => rfl); (case hg => rfl); (case hr => exact qdc1_11); intro gb137 hg w17 hbox hb; have n0_ := Aside0.mk (below_step (qdc1_5 HB) hb); have n1_ := Aside0.mk (hbox); have n2_ := Aside0.mk ((by rw [hg]; exact (below_size (qdc1_5 HB)) : w.heap.size ≤ gb137)); have n3_ := Aside0.mk ((by rw [hg]; exact (below_size (qdc1_5 HB)) : w.heap.size ≤ gb137)); clear HB; have HB := n0_; have BK137 := n1_; have GW137 := n2_; have GE137 := n3_; clear n0_ n1_ n2_ n3_; clear hb hbox hg) | ((with_reducible refine gate_dst (N := 6) rfl ?_); refine box_event ?hg (N := 6) ?hd (cs := #[.slice none 0 0, .slice none 0 0, .int .i64 0]) (t := 25) ?hr ?_; (case hd => rfl); (case hg => rfl); (case hr => exact qdc1_11); intro gb138 hg w18 hbox hb; have n0_ := Aside0.mk (blk_below (g := gb137) (o := .cells #[.slice A0_0 l0_0.length c0_0, .slice A0_1 l0_1.length c0_1, .int .i64 a0_2] 25 (0, 0)) (qdc1_2 BK137) hb); have n1_ := Aside0.mk (below_step (qdc1_4 HB GE137) hb); have n2_ := Aside0.mk (hbox); have n3_ := Aside0.mk ((by rw [hg]; exact (below_size (qdc1_4 HB GE137)) : w.heap.size ≤ gb138)); have n4_ := Aside0.mk ((by rw [hg]; exact (below_size (qdc1_4 HB GE137)) : w.heap.size ≤ gb138)); have n5_ := Aside0.mk ((by rw [hg]; exact Nat.ne_of_lt (blk_lt (g := gb137) (o := .cells #[.slice A0_0 l0_0.length c0_0, .slice A0_1 l0_1.length c0_1, .int .i64 a0_2] 25 (0, 0)) (qdc1_2 BK137)) : gb137 ≠ gb138)); have n6_ := Aside0.mk ((by rw [hg]; exact Nat.ne_of_gt (blk_lt (g := gb137) (o := .cells #[.slice A0_0 l0_0.length c0_0, .slice A0_1 l0_1.length c0_1, .int .i64 a0_2] 25 (0, 0)) (qdc1_2 BK137)) : gb138 ≠ gb137)); clear BK137; clear HB; have BK137 := n0_; have HB := n1_; have BK138 := n2_; have GW138 := n3_; have GE138 := n4_; have NB137_138 := n5_; have NB138_137 := n6_; clear n0_ n1_ n2_ n3_ n4_ n5_ n6_; clear hb hbox hg; have hnb19 := NB137_138.out; have hnc19 := NB138_137.out; have hcz20_0 : w18.cell? ⟨gb137, 0, none⟩ = some (.slice A0_0 l0_0.length c0_0) := (blk_cell BK137.out 0).trans rfl; have hcz20_1 : w18.cell? ⟨gb137, 1, none⟩ = some (.slice A0_1 l0_1.length c0_1) := (blk_cell BK137.out 1).trans rfl; have hcz20_2 : w18.cell? ⟨gb137, 2, none⟩ = some (.int .i64 a0_2) := (blk_cell BK137.out 2).trans rfl; have hfz20_0 := blk_frozen BK137.out 0; have hfz20_1 := blk_frozen BK137.out 1; have hfz20_2 := blk_frozen BK137.out 2) | ((with_reducible refine gate_callee (f := 20) rfl ?_); refine goesL_ (some 9) rfl rfl Try.func20 qdc1_15 rfl #[.agg #[.slice A0_0 l0_0.length c0_0, .slice A0_1 l0_1.length c0_1, .int .i64 a0_2]] rfl qdc1_10 ?_; (with_reducible refine (spec_DictOk.calls k _ _ l0_0 _ _ l0_1 a0_2 false _ ?side1 ?side2 ?side3 ?side4 A4.out).mono ?_); (case side1 => exact (qdc1_7 HR0_0 HB)); (case side2 => exact HC0_0.out); (case side3 => exact (qdc1_7 HR0_1 HB)); (case side4 => exact HC0_1.out); rintro e w21 ⟨rfl, hb⟩; refine ⟨_, rfl, ?_⟩; have n0_ := Aside0.mk (blk_below (g := gb137) (o := .cells #[.slice A0_0 l0_0.length c0_0, .slice A0_1 l0_1.length c0_1, .int .i64 a0_2] 25 (0, 0)) (qdc1_2 BK137) hb); have n1_ := Aside0.mk (blk_below (g := gb138) (o := .cells #[.slice none 0 0, .slice none 0 0, .int .i64 0] 25 (0, 0)) (qdc1_2 BK138) hb); have n2_ := Aside0.mk (below_step (qdc1_1 HB GE137 GE138) hb); clear BK137; clear BK138; clear HB; have BK137 := n0_; have BK138 := n1_; have HB := n2_; clear n0_ n1_ n2_; (try clear hb); (try clear hb2); (try clear hk); (try clear hi); have hcz22_0 : w21.cell? ⟨gb138, 0, none⟩ = some (.slice none 0 0) := (blk_cell BK138.out 0).trans rfl; have hcz22_1 : w21.cell? ⟨gb138, 1, none⟩ = some (.slice none 0 0) := (blk_cell BK138.out 1).trans rfl; have hcz22_2 : w21.cell? ⟨gb138, 2, none⟩ = some (.int .i64 0) := (blk_cell BK138.out 2).trans rfl; have hfz22_0 := blk_frozen BK138.out 0; have hfz22_1 := blk_frozen BK138.out 1; have hfz22_2 := blk_frozen BK138.out 2))
  refine bodyPost_ret (results_ct rfl _ _ gb138 25 #[.slice none 0 0, .slice none 0 0, .int .i64 0] (0, 0) _ rfl (by (with_reducible repeat (first | refine blk_drewN ?_ _ | refine blk_drew ?_ | refine blk_alloc ?_ _)); refine blk_put (cs := #[.slice none 0 0, .slice none 0 0, .int .i64 0]) ?_ 2 _ rfl; (with_reducible repeat (first | refine blk_drewN ?_ _ | refine blk_drew ?_ | refine blk_alloc ?_ _)); refine blk_put (cs := #[.slice none 0 0, .slice none 0 0, .int .i64 0]) ?_ 1 _ rfl; (with_reducible repeat (first | refine blk_drewN ?_ _ | refine blk_drew ?_ | refine blk_alloc ?_ _)); refine blk_put (cs := #[.slice none 0 0, .slice none 0 0, .int .i64 0]) ?_ 0 _ rfl; (with_reducible repeat (first | refine blk_drewN ?_ _ | refine blk_drew ?_ | refine blk_alloc ?_ _)); exact BK138.out) Try.underlying25 rfl qdc1_15) rfl ?_
  exact ⟨_, _, by first | rfl | (simp [errW_none, errW_some] <;> rfl) | (simp [*, errW_none, errW_some] <;> rfl), by first | exact Kd.R_nil _ _ _ _ _ | exact Kd.N_nil _ _ _ _ _ | exact Kd.V_nil _ _ _ _ _ | exact Kd.Q_nil _ _ _ _ _ | exact Kd.S_nil _ _ _ _ _, by first | exact Kd.R_nil _ _ _ _ _ | exact Kd.N_nil _ _ _ _ _ | exact Kd.V_nil _ _ _ _ _ | exact Kd.Q_nil _ _ _ _ _ | exact Kd.S_nil _ _ _ _ _, by repeat (first | (with_reducible first | exact HB.out | apply below_alloc | apply pw_below_drewN | apply below_drew1 | refine below_set ?_ GE137.out | refine below_set ?_ GE138.out) | exact HB.out)⟩

-- GIVEN: function 34 (impl_DictCut)

end Go.Proofs.Ytohilfkdfcihgaa.PDi
