/- Go functions as Lean functions, and that each Go function comes to just that; printed by a program of this session (gprint.py over the kit's print.py). No condition. -/
import Derived.Test.YthpdhahjpjhfiaaPRx0
import Derived.Test.YthpdhahjpjhfiaaPRx1
import Derived.Test.YthpdhahjpjhfiaaPRx2
import Derived.Test.YthpdhahjpjhfiaaPRx3
import Derived.Test.YthpdhahjpjhfiaaGReach
namespace Go.Proofs.Ythpdhahjpjhfiaa.PR
open Go.RowKit Go.Proofs.YthpdhahjpjhfiaaW.PrintWords Go.Proofs.YthpdhahjpjhfiaaW.PrintLast Go.Proofs.YthpdhahjpjhfiaaW.PrintMore
attribute [local go_sem] max2_int min2_int max_two min_two max_three min_three max_four min_four   -- for this text's walks alone
set_option linter.unusedVariables false
set_option linter.unusedSimpArgs false

/-! ### laws_markGcOpS: function 14 -/
def laws_markGcOpS.l0 : Nat → List (S39) → Int → Int → Option (Int × (List (S39)))
 | 0, _, _, _ => none
 | k + 1, x0, x1, x5 => if x5 < (x0.length : Int) then (if 0 ≤ x5 then ((some (x0.set (x5 : Int).toNat (⟨x1, (rd_T39 x0 x5).f1, (rd_T39 x0 x5).f2⟩ : S39) : List (S39))).bind fun y174 => ((some (y174.set (x5 : Int).toNat (⟨(rd_T39 y174 x5).f0, wrap64 (x1 + 1), (rd_T39 y174 x5).f2⟩ : S39) : List (S39))).bind fun y175 => (laws_markGcOpS.l0 k (y175.set (x5 : Int).toNat (⟨(rd_T39 y175 x5).f0, (rd_T39 y175 x5).f1, wrap64 ((wrap64 (x1 + 1)) + 1)⟩ : S39)) (wrap64 ((wrap64 ((wrap64 (x1 + 1)) + 1)) + 1)) (wrap64 (x5 + 1))))) else (none)) else (some (x1, x0))
def laws_markGcOpS.f (k : Nat) (l0 : List (S39)) (a1 : Int) : Option (Int × (List (S39))) := laws_markGcOpS.l0 k l0 a1 0
theorem laws_markGcOpS.mono_l : ∀ k, (∀ y0 y1 y2, LeO (laws_markGcOpS.l0 k y0 y1 y2) (laws_markGcOpS.l0 (k + 1) y0 y1 y2))
 | 0 => fun _ _ _ r h => by simp [laws_markGcOpS.l0] at h
 | k + 1 => by
  have ih0 := laws_markGcOpS.mono_l k
  ·intro y0 y1 y2
   unfold laws_markGcOpS.l0
   repeat' first
   | (with_reducible exact ih0 _ _ _)
   | (with_reducible exact LeO.refl _)
   | (with_reducible exact LeO.none _)
   | (with_reducible refine LeO.ite ?_ ?_)
   | (with_reducible refine LeO.bind ?_ (fun _ => ?_))
   | exact ih0 _ _ _
   | exact LeO.none _
   | refine LeO.ite ?_ ?_
   | refine LeO.bind ?_ (fun _ => ?_)
theorem laws_markGcOpS.mono : ∀ a0 a1 k, LeO (laws_markGcOpS.f k a0 a1) (laws_markGcOpS.f (k + 1) a0 a1) := by
 intro a0 a1 k
 have ih0 := laws_markGcOpS.mono_l k
 unfold laws_markGcOpS.f
 repeat' first
   | (with_reducible exact ih0 _ _ _)
   | (with_reducible exact LeO.refl _)
   | (with_reducible exact LeO.none _)
   | (with_reducible refine LeO.ite ?_ ?_)
   | (with_reducible refine LeO.bind ?_ (fun _ => ?_))
   | exact ih0 _ _ _
   | exact LeO.none _
   | refine LeO.ite ?_ ?_
   | refine LeO.bind ?_ (fun _ => ?_)
set_option maxHeartbeats 8000000 in
set_option maxRecDepth 100000 in
theorem laws_markGcOpS.calls (k : Nat) (P0_ : Nat → Prop) (u9000_ : Value) (l0 : List (S39)) (a1 : Int) (r1 : Int) (r2 : List (S39)) (w0 w : World) (hB : Below w0.heap.size w0 w) (ho0 : Kd.R k39 39 w w0.heap.size P0_ u9000_ l0) (h : laws_markGcOpS.f k l0 a1 = some (r1, r2)) :
  Calls Try.prog 14 #[u9000_, .int .i64 a1] w fun e w' => e = .returned (.int .i64 r1) ∧ Kd.R k39 39 w' w0.heap.size (fun k_ => (P0_ k_ ∨ w.heap.size ≤ k_)) u9000_ r2 ∧ Below w0.heap.size w0 w' ∧ Kept w w' (fun k_ => P0_ k_) := by
 have HO0 := Aside0.mk (show Kd.R k39 39 w w0.heap.size (fun k_ => (P0_ k_ ∨ w.heap.size ≤ k_)) u9000_ l0 from Kd.R_mono ho0 (fun k_ hk => (.inl hk)))
 have HK := Aside0.mk (Kept.refl w (fun k_ => P0_ k_))
 have HW0 := Aside0.mk hB.size
 have HB := Aside0.mk hB
 clear hB
 have H : (laws_markGcOpS.l0 k l0 a1 0) = some (r1, r2) := h
 clear h
 have H' := Aside0.mk H
 clear H
 go_enter Try.func14, Try.ntmps14
 go_wp2
 go_loopg [1, 5] k (fun kq v1 v5 w' => ∃ (x0_1 : List (S39)) (x1_1 : Int) (x5_1 : Int), v1 = .int .i64 x1_1 ∧ v5 = .int .i64 x5_1 ∧ Aside0 (laws_markGcOpS.l0 kq x0_1 x1_1 x5_1 = some (r1, r2)) ∧ Aside0 (kq ≤ k) ∧ Aside0 (Kd.R k39 39 w' w0.heap.size (fun k_ => (P0_ k_ ∨ w.heap.size ≤ k_)) u9000_ x0_1) ∧ Aside0 (Kept w w' (fun k_ => P0_ k_)) ∧ Aside0 (Below w0.heap.size w0 w'))
 case atStart => exact ⟨(l0), (a1), (0), (by first | rfl | (simp; done) | (simp [*]; done)), (by first | rfl | (simp; done) | (simp [*]; done)), H', ⟨Nat.le_refl _⟩, ⟨by (with_reducible repeat (first | apply Kd.R_alloc | apply Kd.R_drewN | apply Kd.R_drew)); exact HO0.out⟩, ⟨by repeat (first | (with_reducible first | exact HK.out | apply Kept.alloc | apply Kept.drewN | apply Kept.drew) | exact HK.out)⟩, ⟨by repeat (first | (with_reducible first | exact HB.out | apply below_alloc | apply pw_below_drewN | apply below_drew1) | exact HB.out)⟩⟩
 case round =>
  clear H'
  try clear c1
  try clear p2
  obtain ⟨x0_1, x1_1, x5_1, rfl, rfl, HA, HK1, HO_0, HK, HB⟩ := hrel
  cases gk with
  | zero => exact absurd HA.out (by simp [laws_markGcOpS.l0])
  | succ k1 =>
   have H := HA.out
   clear HA
   simp only [laws_markGcOpS.l0] at H
   by_cases c3 : x5_1 < (x0_1.length : Int)
   ·rw [if_pos c3] at H
    have c3b0 : decide (x5_1 < (x0_1.length : Int)) = true := decide_eq_true c3
    clear c3
    by_cases c4 : 0 ≤ x5_1
    ·rw [if_pos c4] at H
     have c4b0 : decide (0 ≤ x5_1) = true := decide_eq_true c4
     clear c4
     obtain ⟨y174, hy174⟩ : ∃ y_ : List (S39), y_ = (x0_1.set (x5_1 : Int).toNat (⟨x1_1, (rd_T39 x0_1 x5_1).f1, (rd_T39 x0_1 x5_1).f2⟩ : S39)) := ⟨_, rfl⟩
     replace H : ((some (y174.set (x5_1 : Int).toNat (⟨(rd_T39 y174 x5_1).f0, wrap64 (x1_1 + 1), (rd_T39 y174 x5_1).f2⟩ : S39) : List (S39))).bind fun y175 => (laws_markGcOpS.l0 k1 (y175.set (x5_1 : Int).toNat (⟨(rd_T39 y175 x5_1).f0, (rd_T39 y175 x5_1).f1, wrap64 ((wrap64 (x1_1 + 1)) + 1)⟩ : S39)) (wrap64 ((wrap64 ((wrap64 (x1_1 + 1)) + 1)) + 1)) (wrap64 (x5_1 + 1)))) = some (r1, r2) := by first | (rw [hy174]; with_reducible exact H) | (have H2_ := (Option.bind_some _ _).symm.trans H; rw [hy174]; with_reducible exact H2_) | (have H2_ := (Option.bind_some _ _).symm.trans H; with_reducible exact H2_) | with_reducible exact H | (rw [hy174]; exact H) | exact H
     have Ny174 := Aside0.mk hy174
     clear hy174
     obtain ⟨y175, hy175⟩ : ∃ y_ : List (S39), y_ = (y174.set (x5_1 : Int).toNat (⟨(rd_T39 y174 x5_1).f0, wrap64 (x1_1 + 1), (rd_T39 y174 x5_1).f2⟩ : S39)) := ⟨_, rfl⟩
     replace H : (laws_markGcOpS.l0 k1 (y175.set (x5_1 : Int).toNat (⟨(rd_T39 y175 x5_1).f0, (rd_T39 y175 x5_1).f1, wrap64 ((wrap64 (x1_1 + 1)) + 1)⟩ : S39)) (wrap64 ((wrap64 ((wrap64 (x1_1 + 1)) + 1)) + 1)) (wrap64 (x5_1 + 1))) = some (r1, r2) := by first | (rw [hy175]; with_reducible exact H) | (have H2_ := (Option.bind_some _ _).symm.trans H; rw [hy175]; with_reducible exact H2_) | (have H2_ := (Option.bind_some _ _).symm.trans H; with_reducible exact H2_) | with_reducible exact H | (rw [hy175]; exact H) | exact H
     have Ny175 := Aside0.mk hy175
     clear hy175
     obtain ⟨y176, hy176⟩ : ∃ y_ : List (S39), y_ = (y175.set (x5_1 : Int).toNat (⟨(rd_T39 y175 x5_1).f0, (rd_T39 y175 x5_1).f1, wrap64 ((wrap64 (x1_1 + 1)) + 1)⟩ : S39)) := ⟨_, rfl⟩
     replace H : (laws_markGcOpS.l0 k1 y176 (wrap64 ((wrap64 ((wrap64 (x1_1 + 1)) + 1)) + 1)) (wrap64 (x5_1 + 1))) = some (r1, r2) := by first | (rw [hy176]; with_reducible exact H) | (have H2_ := (Option.bind_some _ _).symm.trans H; rw [hy176]; with_reducible exact H2_) | (have H2_ := (Option.bind_some _ _).symm.trans H; with_reducible exact H2_) | with_reducible exact H | (rw [hy176]; exact H) | exact H
     have Ny176 := Aside0.mk hy176
     clear hy176
     have H' := Aside0.mk H
     clear H
     obtain ⟨Ao8, co8, eo8⟩ := Kd.R_slice HO_0.out
     subst eo8
     have p5 : 0 ≤ (x5_1 : Int) := of_decide_eq_true (by first | (with_reducible assumption) | assumption)
     have q5 : (x5_1 : Int) < ((x0_1.length : Int) : Int) := of_decide_eq_true (by first | (with_reducible assumption) | assumption)
     obtain ⟨go5, co5, eo5, gb5, gl5, cl5, HG5⟩ := Kd.R_form HO_0.out (by omega)
     (first | cases eo5 | (injection eo5 with ea_ en_ ec_; (first | subst ea_ | (injection ea_ with ea_; subst ea_)); subst ec_; clear en_))
     have GB5 := Aside0.mk gb5
     have GG5 := Aside0.mk HG5
     clear gb5 gl5 HG5
     have HMgo5 := Aside0.mk (show (P0_ go5 ∨ w.heap.size ≤ go5) from (HO_0.out.1 _ rfl))
     obtain ⟨ce5, hcl5, hM5, hcc5, hfr5⟩ := Kd.R_elem HO_0.out z39 (x5_1 : Int) p5 q5
     obtain rfl := k39_openM hM5
     have hx5_0 : wr.cell? ⟨go5, (x5_1 : Int).toNat * 3, none⟩ = some (.int .i64 ((rd_T39 x0_1 x5_1).f0)) := hcc5 0 _ rfl
     have hx5_1 : wr.cell? ⟨go5, (x5_1 : Int).toNat * 3 + 1, none⟩ = some (.int .i64 ((rd_T39 x0_1 x5_1).f1)) := hcc5 1 _ rfl
     have hx5_2 : wr.cell? ⟨go5, (x5_1 : Int).toNat * 3 + 2, none⟩ = some (.int .i64 ((rd_T39 x0_1 x5_1).f2)) := hcc5 2 _ rfl
     have hf5_0 : wr.frozen? ⟨go5, (x5_1 : Int).toNat * 3, none⟩ = false := hfr5 0
     have hf5_1 : wr.frozen? ⟨go5, (x5_1 : Int).toNat * 3 + 1, none⟩ = false := hfr5 1
     have hf5_2 : wr.frozen? ⟨go5, (x5_1 : Int).toNat * 3 + 2, none⟩ = false := hfr5 2
     clear hcl5 hcc5 hfr5 hM5
     replace p5 := eq_true p5
     replace q5 := eq_true q5
     have HX9 := Aside0.mk (show Kd.R k39 39 wr w0.heap.size (fun k_ => (P0_ k_ ∨ w.heap.size ≤ k_)) (.slice (some ⟨go5, 0, none⟩) x0_1.length co8) x0_1 from (by (with_reducible repeat (first | apply Kd.R_alloc | apply Kd.R_drewN | apply Kd.R_drew)); exact HO_0.out))
     obtain ⟨ce9, hcl9, hM9, hcc9, hfr9⟩ := Kd.R_elem HX9.out z39 (x5_1 : Int) (of_decide_eq_true (by first | (with_reducible assumption) | assumption)) (by have h_ : (x5_1 : Int) < ((x0_1.length : Int) : Int) := of_decide_eq_true (by first | (with_reducible assumption) | assumption); first | exact h_ | (have e_ := (Kd.R_reads' HO_0.out).1; omega) | simpa using h_)
     obtain rfl := k39_openM hM9
     have HP9 := Kd.R_seg HX9.out (x5_1 : Int) (of_decide_eq_true (by first | (with_reducible assumption) | assumption)) (by have h_ : (x5_1 : Int) < ((x0_1.length : Int) : Int) := of_decide_eq_true (by first | (with_reducible assumption) | assumption); first | exact h_ | (have e_ := (Kd.R_reads' HO_0.out).1; omega) | simpa using h_) (seg := [.int .i64 x1_1]) (j := 0) hcl9 hcc9 (show 1 ≤ 3 from by decide) (x' := (⟨x1_1, (rd_T39 x0_1 x5_1).f1, (rd_T39 x0_1 x5_1).f2⟩ : S39)) (k39_mkM _ _ _ (⟨x1_1, (rd_T39 x0_1 x5_1).f1, (rd_T39 x0_1 x5_1).f2⟩ : S39) ) (fun _ hk => hk)
     have hx9_0 := hcc9 0 _ rfl
     (try simp only [show (k39).sz = 3 from rfl, Nat.mul_one, Nat.add_zero] at hx9_0)
     have hf9_0 := hfr9 0
     (try simp only [show (k39).sz = 3 from rfl, Nat.mul_one, Nat.add_zero] at hf9_0)
     clear hcl9 hcc9 hfr9 hM9
     go_wp2_with (first | ((with_reducible refine gate_store (t := 2) (p := 16) rfl ?_); refine store_event (t := 2) (p := 16) (v := ?vo_w10) (w1 := (wr.setCell ⟨go5, (x5_1 : Int).toNat * 3, none⟩ (.int .i64 x1_1))) ?hg ?ho ?hn ?hr ?_; (case ho => rfl); (case hg => rfl); (case hn => rfl); (case hr => first | (go_simp; done) | (go_simp; rfl)); intro w10 hw; have hg : wr.grownBy w10 (some go5) := (by rw [hw]; exact HP9.2); have hp_ : Kd.R k39 39 w10 w0.heap.size (fun k_ => (P0_ k_ ∨ w.heap.size ≤ k_)) (.slice (some ⟨go5, 0, none⟩) x0_1.length co8) y174 := (by rw [hw, Ny174.out]; exact HP9.1); clear HP9; have n0_ := Aside0.mk (hp_); have n1_ := Aside0.mk ((by rw [hw]; exact below_set (HB.out) GB5.out : Below w0.heap.size w0 w10)); have n2_ := Aside0.mk (Kept.of_grown (S := (fun k_ => P0_ k_)) hg (by repeat (first | (with_reducible first | exact HK.out | apply Kept.alloc | apply Kept.drewN | apply Kept.drew) | exact HK.out)) (fun k_ e_ => (HO_0.out.1 k_ e_))); clear HO_0; clear HB; clear HK; have HO_0 := n0_; have HB := n1_; have HK := n2_; clear n0_ n1_ n2_; clear hg hw hp_; have p6 : 0 ≤ (x5_1 : Int) := of_decide_eq_true (by first | (with_reducible assumption) | assumption); have q6 : (x5_1 : Int) < ((x0_1.length : Int) : Int) := of_decide_eq_true (by first | (with_reducible assumption) | assumption); obtain ⟨ce6, hcl6, hM6, hcc6, hfr6⟩ := Kd.R_elem HO_0.out z39 (x5_1 : Int) p6 q6; obtain rfl := k39_openM hM6; have hx6_0 : w10.cell? ⟨go5, (x5_1 : Int).toNat * 3, none⟩ = some (.int .i64 ((rd_T39 y174 x5_1).f0)) := hcc6 0 _ rfl; have hx6_1 : w10.cell? ⟨go5, (x5_1 : Int).toNat * 3 + 1, none⟩ = some (.int .i64 ((rd_T39 y174 x5_1).f1)) := hcc6 1 _ rfl; have hx6_2 : w10.cell? ⟨go5, (x5_1 : Int).toNat * 3 + 2, none⟩ = some (.int .i64 ((rd_T39 y174 x5_1).f2)) := hcc6 2 _ rfl; have hf6_0 : w10.frozen? ⟨go5, (x5_1 : Int).toNat * 3, none⟩ = false := hfr6 0; have hf6_1 : w10.frozen? ⟨go5, (x5_1 : Int).toNat * 3 + 1, none⟩ = false := hfr6 1; have hf6_2 : w10.frozen? ⟨go5, (x5_1 : Int).toNat * 3 + 2, none⟩ = false := hfr6 2; clear hcl6 hcc6 hfr6 hM6; replace p6 := eq_true p6; replace q6 := eq_true q6; have HX11 := Aside0.mk (show Kd.R k39 39 w10 w0.heap.size (fun k_ => (P0_ k_ ∨ w.heap.size ≤ k_)) (.slice (some ⟨go5, 0, none⟩) x0_1.length co8) y174 from (by (with_reducible repeat (first | apply Kd.R_alloc | apply Kd.R_drewN | apply Kd.R_drew)); exact HO_0.out)); obtain ⟨ce11, hcl11, hM11, hcc11, hfr11⟩ := Kd.R_elem HX11.out z39 (x5_1 : Int) (of_decide_eq_true (by first | (with_reducible assumption) | assumption)) (by have h_ : (x5_1 : Int) < ((x0_1.length : Int) : Int) := of_decide_eq_true (by first | (with_reducible assumption) | assumption); first | exact h_ | (have e_ := (Kd.R_reads' HO_0.out).1; omega) | simpa using h_); obtain rfl := k39_openM hM11; have HP11 := Kd.R_seg HX11.out (x5_1 : Int) (of_decide_eq_true (by first | (with_reducible assumption) | assumption)) (by have h_ : (x5_1 : Int) < ((x0_1.length : Int) : Int) := of_decide_eq_true (by first | (with_reducible assumption) | assumption); first | exact h_ | (have e_ := (Kd.R_reads' HO_0.out).1; omega) | simpa using h_) (seg := [.int .i64 (wrap64 (x1_1 + 1))]) (j := 1) hcl11 hcc11 (show 2 ≤ 3 from by decide) (x' := (⟨(rd_T39 y174 x5_1).f0, wrap64 (x1_1 + 1), (rd_T39 y174 x5_1).f2⟩ : S39)) (k39_mkM _ _ _ (⟨(rd_T39 y174 x5_1).f0, wrap64 (x1_1 + 1), (rd_T39 y174 x5_1).f2⟩ : S39) ) (fun _ hk => hk); have hx11_1 := hcc11 1 _ rfl; (try simp only [show (k39).sz = 3 from rfl, Nat.mul_one, Nat.add_zero] at hx11_1); have hf11_1 := hfr11 1; (try simp only [show (k39).sz = 3 from rfl, Nat.mul_one, Nat.add_zero] at hf11_1); clear hcl11 hcc11 hfr11 hM11) | ((with_reducible refine gate_store (t := 2) (p := 23) rfl ?_); refine store_event (t := 2) (p := 23) (v := ?vo_w12) (w1 := (w10.setCell ⟨go5, (x5_1 : Int).toNat * 3 + 1, none⟩ (.int .i64 (wrap64 (x1_1 + 1))))) ?hg ?ho ?hn ?hr ?_; (case ho => rfl); (case hg => rfl); (case hn => rfl); (case hr => first | (go_simp; done) | (go_simp; rfl)); intro w12 hw; have hg : w10.grownBy w12 (some go5) := (by rw [hw]; exact HP11.2); have hp_ : Kd.R k39 39 w12 w0.heap.size (fun k_ => (P0_ k_ ∨ w.heap.size ≤ k_)) (.slice (some ⟨go5, 0, none⟩) x0_1.length co8) y175 := (by rw [hw, Ny175.out]; exact HP11.1); clear HP11; have n0_ := Aside0.mk (hp_); have n1_ := Aside0.mk ((by rw [hw]; exact below_set (HB.out) GB5.out : Below w0.heap.size w0 w12)); have n2_ := Aside0.mk (Kept.of_grown (S := (fun k_ => P0_ k_)) hg (by repeat (first | (with_reducible first | exact HK.out | apply Kept.alloc | apply Kept.drewN | apply Kept.drew) | exact HK.out)) (fun k_ e_ => (HO_0.out.1 k_ e_))); clear HO_0; clear HB; clear HK; have HO_0 := n0_; have HB := n1_; have HK := n2_; clear n0_ n1_ n2_; clear hg hw hp_; have p7 : 0 ≤ (x5_1 : Int) := of_decide_eq_true (by first | (with_reducible assumption) | assumption); have q7 : (x5_1 : Int) < ((x0_1.length : Int) : Int) := of_decide_eq_true (by first | (with_reducible assumption) | assumption); obtain ⟨ce7, hcl7, hM7, hcc7, hfr7⟩ := Kd.R_elem HO_0.out z39 (x5_1 : Int) p7 q7; obtain rfl := k39_openM hM7; have hx7_0 : w12.cell? ⟨go5, (x5_1 : Int).toNat * 3, none⟩ = some (.int .i64 ((rd_T39 y175 x5_1).f0)) := hcc7 0 _ rfl; have hx7_1 : w12.cell? ⟨go5, (x5_1 : Int).toNat * 3 + 1, none⟩ = some (.int .i64 ((rd_T39 y175 x5_1).f1)) := hcc7 1 _ rfl; have hx7_2 : w12.cell? ⟨go5, (x5_1 : Int).toNat * 3 + 2, none⟩ = some (.int .i64 ((rd_T39 y175 x5_1).f2)) := hcc7 2 _ rfl; have hf7_0 : w12.frozen? ⟨go5, (x5_1 : Int).toNat * 3, none⟩ = false := hfr7 0; have hf7_1 : w12.frozen? ⟨go5, (x5_1 : Int).toNat * 3 + 1, none⟩ = false := hfr7 1; have hf7_2 : w12.frozen? ⟨go5, (x5_1 : Int).toNat * 3 + 2, none⟩ = false := hfr7 2; clear hcl7 hcc7 hfr7 hM7; replace p7 := eq_true p7; replace q7 := eq_true q7; have HX13 := Aside0.mk (show Kd.R k39 39 w12 w0.heap.size (fun k_ => (P0_ k_ ∨ w.heap.size ≤ k_)) (.slice (some ⟨go5, 0, none⟩) x0_1.length co8) y175 from (by (with_reducible repeat (first | apply Kd.R_alloc | apply Kd.R_drewN | apply Kd.R_drew)); exact HO_0.out)); obtain ⟨ce13, hcl13, hM13, hcc13, hfr13⟩ := Kd.R_elem HX13.out z39 (x5_1 : Int) (of_decide_eq_true (by first | (with_reducible assumption) | assumption)) (by have h_ : (x5_1 : Int) < ((x0_1.length : Int) : Int) := of_decide_eq_true (by first | (with_reducible assumption) | assumption); first | exact h_ | (have e_ := (Kd.R_reads' HO_0.out).1; omega) | simpa using h_); obtain rfl := k39_openM hM13; have HP13 := Kd.R_seg HX13.out (x5_1 : Int) (of_decide_eq_true (by first | (with_reducible assumption) | assumption)) (by have h_ : (x5_1 : Int) < ((x0_1.length : Int) : Int) := of_decide_eq_true (by first | (with_reducible assumption) | assumption); first | exact h_ | (have e_ := (Kd.R_reads' HO_0.out).1; omega) | simpa using h_) (seg := [.int .i64 (wrap64 ((wrap64 (x1_1 + 1)) + 1))]) (j := 2) hcl13 hcc13 (show 3 ≤ 3 from by decide) (x' := (⟨(rd_T39 y175 x5_1).f0, (rd_T39 y175 x5_1).f1, wrap64 ((wrap64 (x1_1 + 1)) + 1)⟩ : S39)) (k39_mkM _ _ _ (⟨(rd_T39 y175 x5_1).f0, (rd_T39 y175 x5_1).f1, wrap64 ((wrap64 (x1_1 + 1)) + 1)⟩ : S39) ) (fun _ hk => hk); have hx13_2 := hcc13 2 _ rfl; (try simp only [show (k39).sz = 3 from rfl, Nat.mul_one, Nat.add_zero] at hx13_2); have hf13_2 := hfr13 2; (try simp only [show (k39).sz = 3 from rfl, Nat.mul_one, Nat.add_zero] at hf13_2); clear hcl13 hcc13 hfr13 hM13) | ((with_reducible refine gate_store (t := 2) (p := 30) rfl ?_); refine store_event (t := 2) (p := 30) (v := ?vo_w14) (w1 := (w12.setCell ⟨go5, (x5_1 : Int).toNat * 3 + 2, none⟩ (.int .i64 (wrap64 ((wrap64 (x1_1 + 1)) + 1))))) ?hg ?ho ?hn ?hr ?_; (case ho => rfl); (case hg => rfl); (case hn => rfl); (case hr => first | (go_simp; done) | (go_simp; rfl)); intro w14 hw; have hg : w12.grownBy w14 (some go5) := (by rw [hw]; exact HP13.2); have hp_ : Kd.R k39 39 w14 w0.heap.size (fun k_ => (P0_ k_ ∨ w.heap.size ≤ k_)) (.slice (some ⟨go5, 0, none⟩) x0_1.length co8) y176 := (by rw [hw, Ny176.out]; exact HP13.1); clear HP13; have n0_ := Aside0.mk (hp_); have n1_ := Aside0.mk ((by rw [hw]; exact below_set (HB.out) GB5.out : Below w0.heap.size w0 w14)); have n2_ := Aside0.mk (Kept.of_grown (S := (fun k_ => P0_ k_)) hg (by repeat (first | (with_reducible first | exact HK.out | apply Kept.alloc | apply Kept.drewN | apply Kept.drew) | exact HK.out)) (fun k_ e_ => (HO_0.out.1 k_ e_))); clear HO_0; clear HB; clear HK; have HO_0 := n0_; have HB := n1_; have HK := n2_; clear n0_ n1_ n2_; clear hg hw hp_))
     go_roundg k1
     case measure => have := HK1.out; omega
     case rel => exact ⟨(y176), (wrap64 ((wrap64 ((wrap64 (x1_1 + 1)) + 1)) + 1)), (wrap64 (x5_1 + 1)), (by first | rfl | (simp; done) | (simp [*]; done)), (by first | rfl | (simp; done) | (simp [*]; done)), H', ⟨by have := HK1.out; omega⟩, ⟨by (with_reducible repeat (first | apply Kd.R_alloc | apply Kd.R_drewN | apply Kd.R_drew)); exact HO_0.out⟩, ⟨by repeat (first | (with_reducible first | exact HK.out | apply Kept.alloc | apply Kept.drewN | apply Kept.drew) | exact HK.out)⟩, ⟨by repeat (first | (with_reducible first | exact HB.out | apply below_alloc | apply pw_below_drewN | apply below_drew1) | exact HB.out)⟩⟩
    ·rw [if_neg c4] at H
     exact absurd H (by simp)
   ·rw [if_neg c3] at H
    have c3b0 : decide (x5_1 < (x0_1.length : Int)) = false := decide_eq_false c3
    clear c3
    simp only [Option.some.injEq, Prod.mk.injEq] at H
    obtain ⟨rfl, rfl⟩ := H
    obtain ⟨Ao15, co15, eo15⟩ := Kd.R_slice HO_0.out
    subst eo15
    go_wp2
    go_ret
    exact ⟨by first | rfl | (simp [errW_none, errW_some] <;> rfl) | (simp [*, errW_none, errW_some] <;> rfl), by (with_reducible repeat (first | apply Kd.R_alloc | apply Kd.R_drewN | apply Kd.R_drew)); exact HO_0.out, by repeat (first | (with_reducible first | exact HB.out | apply below_alloc | apply pw_below_drewN | apply below_drew1) | exact HB.out), by repeat (first | (with_reducible first | exact HK.out | apply Kept.alloc | apply Kept.drewN | apply Kept.drew) | exact HK.out)⟩

/-! ### laws_markInt64S: function 15 -/
def laws_markInt64S.l0 : Nat → List Int → Int → Int → Option (Int × List Int)
 | 0, _, _, _ => none
 | k + 1, x0, x1, x5 => if x5 < (x0.length : Int) then (if 0 ≤ x5 then (laws_markInt64S.l0 k (x0.set (x5 : Int).toNat x1) (wrap64 (x1 + 1)) (wrap64 (x5 + 1))) else (none)) else (some (x1, x0))
def laws_markInt64S.f (k : Nat) (l0 : List Int) (a1 : Int) : Option (Int × List Int) := laws_markInt64S.l0 k l0 a1 0
theorem laws_markInt64S.mono_l : ∀ k, (∀ y0 y1 y2, LeO (laws_markInt64S.l0 k y0 y1 y2) (laws_markInt64S.l0 (k + 1) y0 y1 y2))
 | 0 => fun _ _ _ r h => by simp [laws_markInt64S.l0] at h
 | k + 1 => by
  have ih0 := laws_markInt64S.mono_l k
  ·intro y0 y1 y2
   unfold laws_markInt64S.l0
   repeat' first
   | (with_reducible exact ih0 _ _ _)
   | (with_reducible exact LeO.refl _)
   | (with_reducible exact LeO.none _)
   | (with_reducible refine LeO.ite ?_ ?_)
   | (with_reducible refine LeO.bind ?_ (fun _ => ?_))
   | exact ih0 _ _ _
   | exact LeO.none _
   | refine LeO.ite ?_ ?_
   | refine LeO.bind ?_ (fun _ => ?_)
theorem laws_markInt64S.mono : ∀ a0 a1 k, LeO (laws_markInt64S.f k a0 a1) (laws_markInt64S.f (k + 1) a0 a1) := by
 intro a0 a1 k
 have ih0 := laws_markInt64S.mono_l k
 unfold laws_markInt64S.f
 repeat' first
   | (with_reducible exact ih0 _ _ _)
   | (with_reducible exact LeO.refl _)
   | (with_reducible exact LeO.none _)
   | (with_reducible refine LeO.ite ?_ ?_)
   | (with_reducible refine LeO.bind ?_ (fun _ => ?_))
   | exact ih0 _ _ _
   | exact LeO.none _
   | refine LeO.ite ?_ ?_
   | refine LeO.bind ?_ (fun _ => ?_)
set_option maxHeartbeats 8000000 in
set_option maxRecDepth 100000 in
theorem laws_markInt64S.calls (k : Nat) (P0_ : Nat → Prop) (u9000_ : Value) (l0 : List Int) (a1 : Int) (r1 : Int) (r2 : List Int) (w0 w : World) (hB : Below w0.heap.size w0 w) (ho0 : Kd.R (Kd.int .i64) 2 w w0.heap.size P0_ u9000_ l0) (h : laws_markInt64S.f k l0 a1 = some (r1, r2)) :
  Calls Try.prog 15 #[u9000_, .int .i64 a1] w fun e w' => e = .returned (.int .i64 r1) ∧ Kd.R (Kd.int .i64) 2 w' w0.heap.size (fun k_ => (P0_ k_ ∨ w.heap.size ≤ k_)) u9000_ r2 ∧ Below w0.heap.size w0 w' ∧ Kept w w' (fun k_ => P0_ k_) := by
 have HO0 := Aside0.mk (show Kd.R (Kd.int .i64) 2 w w0.heap.size (fun k_ => (P0_ k_ ∨ w.heap.size ≤ k_)) u9000_ l0 from Kd.R_mono ho0 (fun k_ hk => (.inl hk)))
 have HK := Aside0.mk (Kept.refl w (fun k_ => P0_ k_))
 have HW0 := Aside0.mk hB.size
 have HB := Aside0.mk hB
 clear hB
 have H : (laws_markInt64S.l0 k l0 a1 0) = some (r1, r2) := h
 clear h
 have H' := Aside0.mk H
 clear H
 go_enter Try.func15, Try.ntmps15
 go_wp2
 go_loopg [1, 5] k (fun kq v1 v5 w' => ∃ (x0_1 : List Int) (x1_1 : Int) (x5_1 : Int), v1 = .int .i64 x1_1 ∧ v5 = .int .i64 x5_1 ∧ Aside0 (laws_markInt64S.l0 kq x0_1 x1_1 x5_1 = some (r1, r2)) ∧ Aside0 (kq ≤ k) ∧ Aside0 (Kd.R (Kd.int .i64) 2 w' w0.heap.size (fun k_ => (P0_ k_ ∨ w.heap.size ≤ k_)) u9000_ x0_1) ∧ Aside0 (Kept w w' (fun k_ => P0_ k_)) ∧ Aside0 (Below w0.heap.size w0 w'))
 case atStart => exact ⟨(l0), (a1), (0), (by first | rfl | (simp; done) | (simp [*]; done)), (by first | rfl | (simp; done) | (simp [*]; done)), H', ⟨Nat.le_refl _⟩, ⟨by (with_reducible repeat (first | apply Kd.R_alloc | apply Kd.R_drewN | apply Kd.R_drew)); exact HO0.out⟩, ⟨by repeat (first | (with_reducible first | exact HK.out | apply Kept.alloc | apply Kept.drewN | apply Kept.drew) | exact HK.out)⟩, ⟨by repeat (first | (with_reducible first | exact HB.out | apply below_alloc | apply pw_below_drewN | apply below_drew1) | exact HB.out)⟩⟩
 case round =>
  clear H'
  try clear c1
  try clear p2
  obtain ⟨x0_1, x1_1, x5_1, rfl, rfl, HA, HK1, HO_0, HK, HB⟩ := hrel
  cases gk with
  | zero => exact absurd HA.out (by simp [laws_markInt64S.l0])
  | succ k1 =>
   have H := HA.out
   clear HA
   simp only [laws_markInt64S.l0] at H
   by_cases c3 : x5_1 < (x0_1.length : Int)
   ·rw [if_pos c3] at H
    have c3b0 : decide (x5_1 < (x0_1.length : Int)) = true := decide_eq_true c3
    clear c3
    by_cases c4 : 0 ≤ x5_1
    ·rw [if_pos c4] at H
     have c4b0 : decide (0 ≤ x5_1) = true := decide_eq_true c4
     clear c4
     obtain ⟨y177, hy177⟩ : ∃ y_ : List Int, y_ = (x0_1.set (x5_1 : Int).toNat x1_1) := ⟨_, rfl⟩
     replace H : (laws_markInt64S.l0 k1 y177 (wrap64 (x1_1 + 1)) (wrap64 (x5_1 + 1))) = some (r1, r2) := by first | (rw [hy177]; with_reducible exact H) | (have H2_ := (Option.bind_some _ _).symm.trans H; rw [hy177]; with_reducible exact H2_) | (have H2_ := (Option.bind_some _ _).symm.trans H; with_reducible exact H2_) | with_reducible exact H | (rw [hy177]; exact H) | exact H
     have Ny177 := Aside0.mk hy177
     clear hy177
     have H' := Aside0.mk H
     clear H
     obtain ⟨Ao6, co6, eo6⟩ := Kd.R_slice HO_0.out
     subst eo6
     have p5 : 0 ≤ (x5_1 : Int) := of_decide_eq_true (by first | (with_reducible assumption) | assumption)
     have q5 : (x5_1 : Int) < ((x0_1.length : Int) : Int) := of_decide_eq_true (by first | (with_reducible assumption) | assumption)
     obtain ⟨go5, co5, eo5, gb5, gl5, cl5, HG5⟩ := Kd.R_form HO_0.out (by omega)
     (first | cases eo5 | (injection eo5 with ea_ en_ ec_; (first | subst ea_ | (injection ea_ with ea_; subst ea_)); subst ec_; clear en_))
     have GB5 := Aside0.mk gb5
     have GG5 := Aside0.mk HG5
     clear gb5 gl5 HG5
     have HMgo5 := Aside0.mk (show (P0_ go5 ∨ w.heap.size ≤ go5) from (HO_0.out.1 _ rfl))
     obtain ⟨hx5_0, hf5_0⟩ := Kd.R_celln 0 HO_0.out (x5_1 : Int) p5 q5
     replace p5 := eq_true p5
     replace q5 := eq_true q5
     have HP7 := Kd.R_putg HO_0.out (x5_1 : Int) x1_1
     go_wp2_with (first | ((with_reducible refine gate_store (t := 2) (p := 15) rfl ?_); refine store_event (t := 2) (p := 15) (v := ?vo_w8) (w1 := (wr.setCell ⟨go5, (x5_1 : Int).toNat, none⟩ (.int .i64 x1_1))) ?hg ?ho ?hn ?hr ?_; (case ho => rfl); (case hg => rfl); (case hn => rfl); (case hr => first | (go_simp; done) | (go_simp; rfl)); intro w8 hw; have hg : wr.grownBy w8 (some go5) := (by rw [hw]; exact HP7.2); have hp_ : Kd.R (Kd.int .i64) 2 w8 w0.heap.size (fun k_ => (P0_ k_ ∨ w.heap.size ≤ k_)) (.slice (some ⟨go5, 0, none⟩) x0_1.length co6) y177 := (by rw [hw, Ny177.out]; exact HP7.1); clear HP7; have n0_ := Aside0.mk (hp_); have n1_ := Aside0.mk ((by rw [hw]; exact below_set (HB.out) GB5.out : Below w0.heap.size w0 w8)); have n2_ := Aside0.mk (Kept.of_grown (S := (fun k_ => P0_ k_)) hg (by repeat (first | (with_reducible first | exact HK.out | apply Kept.alloc | apply Kept.drewN | apply Kept.drew) | exact HK.out)) (fun k_ e_ => (HO_0.out.1 k_ e_))); clear HO_0; clear HB; clear HK; have HO_0 := n0_; have HB := n1_; have HK := n2_; clear n0_ n1_ n2_; clear hg hw hp_))
     go_roundg k1
     case measure => have := HK1.out; omega
     case rel => exact ⟨(y177), (wrap64 (x1_1 + 1)), (wrap64 (x5_1 + 1)), (by first | rfl | (simp; done) | (simp [*]; done)), (by first | rfl | (simp; done) | (simp [*]; done)), H', ⟨by have := HK1.out; omega⟩, ⟨by (with_reducible repeat (first | apply Kd.R_alloc | apply Kd.R_drewN | apply Kd.R_drew)); exact HO_0.out⟩, ⟨by repeat (first | (with_reducible first | exact HK.out | apply Kept.alloc | apply Kept.drewN | apply Kept.drew) | exact HK.out)⟩, ⟨by repeat (first | (with_reducible first | exact HB.out | apply below_alloc | apply pw_below_drewN | apply below_drew1) | exact HB.out)⟩⟩
    ·rw [if_neg c4] at H
     exact absurd H (by simp)
   ·rw [if_neg c3] at H
    have c3b0 : decide (x5_1 < (x0_1.length : Int)) = false := decide_eq_false c3
    clear c3
    simp only [Option.some.injEq, Prod.mk.injEq] at H
    obtain ⟨rfl, rfl⟩ := H
    obtain ⟨Ao9, co9, eo9⟩ := Kd.R_slice HO_0.out
    subst eo9
    go_wp2
    go_ret
    exact ⟨by first | rfl | (simp [errW_none, errW_some] <;> rfl) | (simp [*, errW_none, errW_some] <;> rfl), by (with_reducible repeat (first | apply Kd.R_alloc | apply Kd.R_drewN | apply Kd.R_drew)); exact HO_0.out, by repeat (first | (with_reducible first | exact HB.out | apply below_alloc | apply pw_below_drewN | apply below_drew1) | exact HB.out), by repeat (first | (with_reducible first | exact HK.out | apply Kept.alloc | apply Kept.drewN | apply Kept.drew) | exact HK.out)⟩

/-! ### laws_heldInt64S: function 16 -/
def laws_heldInt64S.l0 : Nat → List Int → Int → Int → Option (Int)
 | 0, _, _, _ => none
 | k + 1, x0, x1, x5 => if x5 < (x0.length : Int) then (if 0 ≤ x5 then (if (rd x0 x5) = x1 then (laws_heldInt64S.l0 k x0 (wrap64 (x1 + 1)) (wrap64 (x5 + 1))) else (some (-1))) else (none)) else (some x1)
def laws_heldInt64S.f (k : Nat) (l0 : List Int) (a1 : Int) : Option (Int) := laws_heldInt64S.l0 k l0 a1 0
theorem laws_heldInt64S.mono_l : ∀ k, (∀ y0 y1 y2, LeO (laws_heldInt64S.l0 k y0 y1 y2) (laws_heldInt64S.l0 (k + 1) y0 y1 y2))
 | 0 => fun _ _ _ r h => by simp [laws_heldInt64S.l0] at h
 | k + 1 => by
  have ih0 := laws_heldInt64S.mono_l k
  ·intro y0 y1 y2
   unfold laws_heldInt64S.l0
   repeat' first
   | (with_reducible exact ih0 _ _ _)
   | (with_reducible exact LeO.refl _)
   | (with_reducible exact LeO.none _)
   | (with_reducible refine LeO.ite ?_ ?_)
   | (with_reducible refine LeO.bind ?_ (fun _ => ?_))
   | exact ih0 _ _ _
   | exact LeO.none _
   | refine LeO.ite ?_ ?_
   | refine LeO.bind ?_ (fun _ => ?_)
theorem laws_heldInt64S.mono : ∀ a0 a1 k, LeO (laws_heldInt64S.f k a0 a1) (laws_heldInt64S.f (k + 1) a0 a1) := by
 intro a0 a1 k
 have ih0 := laws_heldInt64S.mono_l k
 unfold laws_heldInt64S.f
 repeat' first
   | (with_reducible exact ih0 _ _ _)
   | (with_reducible exact LeO.refl _)
   | (with_reducible exact LeO.none _)
   | (with_reducible refine LeO.ite ?_ ?_)
   | (with_reducible refine LeO.bind ?_ (fun _ => ?_))
   | exact ih0 _ _ _
   | exact LeO.none _
   | refine LeO.ite ?_ ?_
   | refine LeO.bind ?_ (fun _ => ?_)
set_option maxHeartbeats 8000000 in
set_option maxRecDepth 100000 in
theorem laws_heldInt64S.calls (k : Nat) (A0 : Option Addr) (c0 : Nat) (l0 : List Int) (a1 : Int) (r : Int) (w : World) (hr0 : Kd.C (Kd.int .i64) w A0 l0.length l0) (hc0 : l0.length ≤ c0) (h : laws_heldInt64S.f k l0 a1 = some r) :
  Calls Try.prog 16 #[.slice A0 l0.length c0, .int .i64 a1] w fun e w' => e = .returned (.int .i64 r) ∧ Drawn0 w w' := by
 have HR0 := Aside0.mk hr0
 have HC0 := Aside0.mk hc0
 clear hr0 hc0
 have H : (laws_heldInt64S.l0 k l0 a1 0) = some r := h
 clear h
 have H' := Aside0.mk H
 clear H
 go_enter Try.func16, Try.ntmps16
 go_wp2
 go_loopg [1, 5] k (fun kq v1 v5 w' => ∃ (x1_1 : Int) (x5_1 : Int), v1 = .int .i64 x1_1 ∧ v5 = .int .i64 x5_1 ∧ Aside0 (laws_heldInt64S.l0 kq l0 x1_1 x5_1 = some r) ∧ Aside0 (kq ≤ k) ∧ Drawn0 w w')
 case atStart => exact ⟨(a1), (0), (by first | rfl | (simp; done) | (simp [*]; done)), (by first | rfl | (simp; done) | (simp [*]; done)), H', ⟨Nat.le_refl _⟩, by repeat (first | exact Drawn0.refl _ | apply Drawn0.step)⟩
 case round =>
  clear H'
  try clear c1
  try clear p2
  obtain ⟨x1_1, x5_1, rfl, rfl, HA, HK1, ⟨m1, rfl⟩⟩ := hrel
  cases gk with
  | zero => exact absurd HA.out (by simp [laws_heldInt64S.l0])
  | succ k1 =>
   have H := HA.out
   clear HA
   simp only [laws_heldInt64S.l0] at H
   by_cases c3 : x5_1 < (l0.length : Int)
   ·rw [if_pos c3] at H
    have c3b0 : decide (x5_1 < (l0.length : Int)) = true := decide_eq_true c3
    clear c3
    by_cases c4 : 0 ≤ x5_1
    ·rw [if_pos c4] at H
     have c4b0 : decide (0 ≤ x5_1) = true := decide_eq_true c4
     clear c4
     by_cases c5 : (rd l0 x5_1) = x1_1
     ·rw [if_pos c5] at H
      have c5b0 : ((rd l0 x5_1) == x1_1) = true := beq_iff_eq.mpr c5
      have c5b1 : ((rd l0 x5_1) != x1_1) = false := bne_eq_false_iff_eq.mpr c5
      clear c5
      have H' := Aside0.mk H
      clear H
      have p178 : 0 ≤ (x5_1 : Int) := of_decide_eq_true (by first | (with_reducible assumption) | assumption)
      have q178 : x5_1 < (l0.length : Int) := of_decide_eq_true (by first | (with_reducible assumption) | assumption)
      obtain ⟨ad178, e178, hx178_0⟩ := Kd.at_int HR0.out x5_1 p178 q178
      cases e178
      replace p178 := eq_true p178
      replace q178 := eq_true q178
      go_wp2
      go_roundg k1
      case measure => have := HK1.out; omega
      case rel => exact ⟨(wrap64 (x1_1 + 1)), (wrap64 (x5_1 + 1)), (by first | rfl | (simp; done) | (simp [*]; done)), (by first | rfl | (simp; done) | (simp [*]; done)), H', ⟨by have := HK1.out; omega⟩, by repeat (first | exact Drawn0.refl _ | apply Drawn0.step)⟩
     ·rw [if_neg c5] at H
      have c5b0 : ((rd l0 x5_1) == x1_1) = false := beq_eq_false_iff_ne.mpr c5
      have c5b1 : ((rd l0 x5_1) != x1_1) = true := bne_iff_ne.mpr c5
      obtain rfl := Option.some.inj H
      have p178 : 0 ≤ (x5_1 : Int) := of_decide_eq_true (by first | (with_reducible assumption) | assumption)
      have q178 : x5_1 < (l0.length : Int) := of_decide_eq_true (by first | (with_reducible assumption) | assumption)
      obtain ⟨ad178, e178, hx178_0⟩ := Kd.at_int HR0.out x5_1 p178 q178
      cases e178
      replace p178 := eq_true p178
      replace q178 := eq_true q178
      go_wp2
      go_ret
      exact ⟨by first | rfl | (simp; done) | (simp [*]; done), by repeat (first | exact Drawn0.refl _ | apply Drawn0.step)⟩
    ·rw [if_neg c4] at H
     exact absurd H (by simp)
   ·rw [if_neg c3] at H
    have c3b0 : decide (x5_1 < (l0.length : Int)) = false := decide_eq_false c3
    clear c3
    obtain rfl := Option.some.inj H
    go_wp2
    go_ret
    exact ⟨by first | rfl | (simp; done) | (simp [*]; done), by repeat (first | exact Drawn0.refl _ | apply Drawn0.step)⟩

/-! ### laws_FnExactGcReach: function 3 -/
def laws_FnExactGcReach.j0 : Nat → Int → List (S54) → List Int → List Int → List Int → Bool → Option (Bool)
 | 0, _, _, _, _, _, _ => none
 | k + 1, x0, x1, x2, x8, x11, x65 => if x65 = true then (none) else ((laws_markInt64S.f k x11 1).bind fun bt212 => ((laws_heldInt64S.f k bt212.2 1).bind fun t214 => (if t214 < 0 then (none) else (if t214 = bt212.1 then ((laws_toGcOpS.f k x1).bind fun t215 => ((laws_toInt64S.f k x2).bind fun t218 => ((impl_GcReach.f x0 t215 t218).bind fun t221 => ((laws_eqInt64S.f k t221 x8).bind fun t224 => (if t224 = true then ((laws_heldInt64S.f k bt212.2 1).bind fun t225 => (if t225 < 0 then (none) else (if t225 = bt212.1 then (some true) else (none)))) else (none)))))) else (none)))))
def laws_FnExactGcReach.f (k : Nat) (a0 : Int) (l1 : List (S54)) (l2 : List Int) : Option (Bool) := if (l2.length : Int) > 1048576 then (some true) else ((laws_szGcOpS.f l1 1048576).bind fun t179 => (if t179 < 0 then (some true) else ((laws_toGcOpS.f k l1).bind fun t180 => ((laws_toInt64S.f k l2).bind fun t183 => ((spec_GcReach.f k a0 t180 t183).bind fun t186 => ((laws_toGcOpS.f k l1).bind fun t189 => ((laws_toInt64S.f k l2).bind fun t192 => ((impl_GcReach.f a0 t189 t192).bind fun t195 => ((laws_eqInt64S.f k t195 t186).bind fun t198 => (if t198 = true then ((laws_toGcOpS.f k l1).bind fun t199 => ((laws_eqGcOpS.f k t189 t199).bind fun t202 => (if t202 = true then ((laws_toInt64S.f k l2).bind fun t203 => ((laws_eqInt64S.f k t192 t203).bind fun t206 => (if t206 = true then ((laws_markGcOpS.f k t189 1).bind fun bt207 => ((laws_markInt64S.f k t192 bt207.1).bind fun bt209 => (if bt209.1 < 0 then (laws_FnExactGcReach.j0 k a0 l1 l2 t186 t195 true) else ((laws_eqInt64S.f k t195 t186).bind fun t211 => (laws_FnExactGcReach.j0 k a0 l1 l2 t186 t195 (!t211)))))) else (none)))) else (none)))) else (none)))))))))))
theorem laws_FnExactGcReach.mono_l : ∀ k, (∀ y0 y1 y2 y3 y4 y5, LeO (laws_FnExactGcReach.j0 k y0 y1 y2 y3 y4 y5) (laws_FnExactGcReach.j0 (k + 1) y0 y1 y2 y3 y4 y5))
 | 0 => fun _ _ _ _ _ _ r h => by simp [laws_FnExactGcReach.j0] at h
 | k + 1 => by
  have ih0 := laws_FnExactGcReach.mono_l k
  ·intro y0 y1 y2 y3 y4 y5
   unfold laws_FnExactGcReach.j0
   repeat' first
   | (with_reducible exact ih0 _ _ _ _ _ _)
   | (with_reducible exact laws_eqGcOpS.mono _ _ _)
   | (with_reducible exact laws_eqInt64S.mono _ _ _)
   | (with_reducible exact laws_heldInt64S.mono _ _ _)
   | (with_reducible exact laws_markGcOpS.mono _ _ _)
   | (with_reducible exact laws_markInt64S.mono _ _ _)
   | (with_reducible exact laws_toGcOpS.mono _ _)
   | (with_reducible exact laws_toInt64S.mono _ _)
   | (with_reducible exact spec_GcReach.mono _ _ _ _)
   | (with_reducible exact LeO.refl _)
   | (with_reducible exact LeO.none _)
   | (with_reducible refine LeO.ite ?_ ?_)
   | (with_reducible refine LeO.bind ?_ (fun _ => ?_))
   | exact ih0 _ _ _ _ _ _
   | exact laws_eqGcOpS.mono _ _ _
   | exact laws_eqInt64S.mono _ _ _
   | exact laws_heldInt64S.mono _ _ _
   | exact laws_markGcOpS.mono _ _ _
   | exact laws_markInt64S.mono _ _ _
   | exact laws_toGcOpS.mono _ _
   | exact laws_toInt64S.mono _ _
   | exact spec_GcReach.mono _ _ _ _
   | exact LeO.none _
   | refine LeO.ite ?_ ?_
   | refine LeO.bind ?_ (fun _ => ?_)
theorem laws_FnExactGcReach.mono : ∀ a0 a1 a2 k, LeO (laws_FnExactGcReach.f k a0 a1 a2) (laws_FnExactGcReach.f (k + 1) a0 a1 a2) := by
 intro a0 a1 a2 k
 have ih0 := laws_FnExactGcReach.mono_l k
 unfold laws_FnExactGcReach.f
 repeat' first
   | (with_reducible exact ih0 _ _ _ _ _ _)
   | (with_reducible exact laws_eqGcOpS.mono _ _ _)
   | (with_reducible exact laws_eqInt64S.mono _ _ _)
   | (with_reducible exact laws_heldInt64S.mono _ _ _)
   | (with_reducible exact laws_markGcOpS.mono _ _ _)
   | (with_reducible exact laws_markInt64S.mono _ _ _)
   | (with_reducible exact laws_toGcOpS.mono _ _)
   | (with_reducible exact laws_toInt64S.mono _ _)
   | (with_reducible exact spec_GcReach.mono _ _ _ _)
   | (with_reducible exact LeO.refl _)
   | (with_reducible exact LeO.none _)
   | (with_reducible refine LeO.ite ?_ ?_)
   | (with_reducible refine LeO.bind ?_ (fun _ => ?_))
   | exact ih0 _ _ _ _ _ _
   | exact laws_eqGcOpS.mono _ _ _
   | exact laws_eqInt64S.mono _ _ _
   | exact laws_heldInt64S.mono _ _ _
   | exact laws_markGcOpS.mono _ _ _
   | exact laws_markInt64S.mono _ _ _
   | exact laws_toGcOpS.mono _ _
   | exact laws_toInt64S.mono _ _
   | exact spec_GcReach.mono _ _ _ _
   | exact LeO.none _
   | refine LeO.ite ?_ ?_
   | refine LeO.bind ?_ (fun _ => ?_)
set_option maxHeartbeats 8000000 in
set_option maxRecDepth 100000 in
theorem laws_FnExactGcReach.calls (k : Nat) (a0 : Int) (A1 : Option Addr) (c1 : Nat) (l1 : List (S54)) (A2 : Option Addr) (c2 : Nat) (l2 : List Int) (r : Bool) (w : World) (hr1 : Kd.C k54 w A1 l1.length l1) (hc1 : l1.length ≤ c1) (hr2 : Kd.C (Kd.int .i64) w A2 l2.length l2) (hc2 : l2.length ≤ c2) (h : laws_FnExactGcReach.f k a0 l1 l2 = some r) :
  Calls Try.prog 3 #[.int .i64 a0, .slice A1 l1.length c1, .slice A2 l2.length c2] w fun e w' => e = .returned (.bool r) ∧ Below w.heap.size w w' := by
 have HR1 := Aside0.mk hr1
 have HC1 := Aside0.mk hc1
 clear hr1 hc1
 have HR2 := Aside0.mk hr2
 have HC2 := Aside0.mk hc2
 clear hr2 hc2
 have HB := Aside0.mk (Below.refl w.heap.size w)
 have H : (if (l2.length : Int) > 1048576 then (some true) else ((laws_szGcOpS.f l1 1048576).bind fun t179 => (if t179 < 0 then (some true) else ((laws_toGcOpS.f k l1).bind fun t180 => ((laws_toInt64S.f k l2).bind fun t183 => ((spec_GcReach.f k a0 t180 t183).bind fun t186 => ((laws_toGcOpS.f k l1).bind fun t189 => ((laws_toInt64S.f k l2).bind fun t192 => ((impl_GcReach.f a0 t189 t192).bind fun t195 => ((laws_eqInt64S.f k t195 t186).bind fun t198 => (if t198 = true then ((laws_toGcOpS.f k l1).bind fun t199 => ((laws_eqGcOpS.f k t189 t199).bind fun t202 => (if t202 = true then ((laws_toInt64S.f k l2).bind fun t203 => ((laws_eqInt64S.f k t192 t203).bind fun t206 => (if t206 = true then ((laws_markGcOpS.f k t189 1).bind fun bt207 => ((laws_markInt64S.f k t192 bt207.1).bind fun bt209 => (if bt209.1 < 0 then (laws_FnExactGcReach.j0 k a0 l1 l2 t186 t195 true) else ((laws_eqInt64S.f k t195 t186).bind fun t211 => (laws_FnExactGcReach.j0 k a0 l1 l2 t186 t195 (!t211)))))) else (none)))) else (none)))) else (none)))))))))))) = some r := h
 clear h
 by_cases c4 : (l2.length : Int) > 1048576
 ·rw [if_pos c4] at H
  have c4b0 : decide (1048576 < (l2.length : Int)) = true := decide_eq_true c4
  have c4b1 : decide (1048576 < l2.length) = true := decide_eq_true (by omega)
  clear c4
  obtain rfl := Option.some.inj H
  go_enter Try.func3, Try.ntmps3
  go_wp2
  go_ret
  exact ⟨by first | rfl | (simp [errW_none, errW_some] <;> rfl) | (simp [*, errW_none, errW_some] <;> rfl), by repeat (first | (with_reducible first | exact HB.out | apply below_alloc | apply pw_below_drewN | apply below_drew1) | exact HB.out)⟩
 ·rw [if_neg c4] at H
  have c4b0 : decide (1048576 < (l2.length : Int)) = false := decide_eq_false c4
  have c4b1 : decide (1048576 < l2.length) = false := decide_eq_false (by omega)
  clear c4
  replace H := Option.bind_eq_some_iff.mp H
  obtain ⟨t179, A50, H⟩ := H
  replace H : (if t179 < 0 then (some true) else ((laws_toGcOpS.f k l1).bind fun t180 => ((laws_toInt64S.f k l2).bind fun t183 => ((spec_GcReach.f k a0 t180 t183).bind fun t186 => ((laws_toGcOpS.f k l1).bind fun t189 => ((laws_toInt64S.f k l2).bind fun t192 => ((impl_GcReach.f a0 t189 t192).bind fun t195 => ((laws_eqInt64S.f k t195 t186).bind fun t198 => (if t198 = true then ((laws_toGcOpS.f k l1).bind fun t199 => ((laws_eqGcOpS.f k t189 t199).bind fun t202 => (if t202 = true then ((laws_toInt64S.f k l2).bind fun t203 => ((laws_eqInt64S.f k t192 t203).bind fun t206 => (if t206 = true then ((laws_markGcOpS.f k t189 1).bind fun bt207 => ((laws_markInt64S.f k t192 bt207.1).bind fun bt209 => (if bt209.1 < 0 then (laws_FnExactGcReach.j0 k a0 l1 l2 t186 t195 true) else ((laws_eqInt64S.f k t195 t186).bind fun t211 => (laws_FnExactGcReach.j0 k a0 l1 l2 t186 t195 (!t211)))))) else (none)))) else (none)))) else (none)))))))))) = some r := H
  have A5 := Aside0.mk A50
  clear A50
  by_cases c6 : t179 < 0
  ·rw [if_pos c6] at H
   have c6b0 : decide (t179 < 0) = true := decide_eq_true c6
   clear c6
   obtain rfl := Option.some.inj H
   go_enter Try.func3, Try.ntmps3
   go_wp2_with (first | ((with_reducible refine gate_callee (f := 7) rfl ?_); refine goesL_ (some 21) rfl rfl Try.func7 (by kernel_rfl) rfl #[.slice A1 l1.length c1, .int .i64 1048576] rfl (by (try simp only [List.map_toArray, List.map_cons, List.map_nil]); first | done | rfl | (simp only [List.length_drop, List.length_take]; rfl)) ?_; (with_reducible refine (laws_szGcOpS.calls _ _ l1 1048576 t179 _ ?side1 ?side2 A5.out).mono ?_); (case side1 => repeat (first | exact HR1.out | (with_reducible refine Kd.C_alloc ?_ _) | (with_reducible refine Kd.C_drewN ?_ _) | (with_reducible refine Kd.C_drew ?_))); (case side2 => exact HC1.out); rintro e w' ⟨rfl, ⟨nd, rfl⟩⟩; refine ⟨_, rfl, ?_⟩))
   go_ret
   exact ⟨by first | rfl | (simp [errW_none, errW_some] <;> rfl) | (simp [*, errW_none, errW_some] <;> rfl), by repeat (first | (with_reducible first | exact HB.out | apply below_alloc | apply pw_below_drewN | apply below_drew1) | exact HB.out)⟩
  ·rw [if_neg c6] at H
   have c6b0 : decide (t179 < 0) = false := decide_eq_false c6
   clear c6
   replace H := Option.bind_eq_some_iff.mp H
   obtain ⟨t180, A70, H⟩ := H
   replace H : ((laws_toInt64S.f k l2).bind fun t183 => ((spec_GcReach.f k a0 t180 t183).bind fun t186 => ((laws_toGcOpS.f k l1).bind fun t189 => ((laws_toInt64S.f k l2).bind fun t192 => ((impl_GcReach.f a0 t189 t192).bind fun t195 => ((laws_eqInt64S.f k t195 t186).bind fun t198 => (if t198 = true then ((laws_toGcOpS.f k l1).bind fun t199 => ((laws_eqGcOpS.f k t189 t199).bind fun t202 => (if t202 = true then ((laws_toInt64S.f k l2).bind fun t203 => ((laws_eqInt64S.f k t192 t203).bind fun t206 => (if t206 = true then ((laws_markGcOpS.f k t189 1).bind fun bt207 => ((laws_markInt64S.f k t192 bt207.1).bind fun bt209 => (if bt209.1 < 0 then (laws_FnExactGcReach.j0 k a0 l1 l2 t186 t195 true) else ((laws_eqInt64S.f k t195 t186).bind fun t211 => (laws_FnExactGcReach.j0 k a0 l1 l2 t186 t195 (!t211)))))) else (none)))) else (none)))) else (none)))))))) = some r := H
   have A7 := Aside0.mk A70
   clear A70
   replace H := Option.bind_eq_some_iff.mp H
   obtain ⟨t183, A80, H⟩ := H
   replace H : ((spec_GcReach.f k a0 t180 t183).bind fun t186 => ((laws_toGcOpS.f k l1).bind fun t189 => ((laws_toInt64S.f k l2).bind fun t192 => ((impl_GcReach.f a0 t189 t192).bind fun t195 => ((laws_eqInt64S.f k t195 t186).bind fun t198 => (if t198 = true then ((laws_toGcOpS.f k l1).bind fun t199 => ((laws_eqGcOpS.f k t189 t199).bind fun t202 => (if t202 = true then ((laws_toInt64S.f k l2).bind fun t203 => ((laws_eqInt64S.f k t192 t203).bind fun t206 => (if t206 = true then ((laws_markGcOpS.f k t189 1).bind fun bt207 => ((laws_markInt64S.f k t192 bt207.1).bind fun bt209 => (if bt209.1 < 0 then (laws_FnExactGcReach.j0 k a0 l1 l2 t186 t195 true) else ((laws_eqInt64S.f k t195 t186).bind fun t211 => (laws_FnExactGcReach.j0 k a0 l1 l2 t186 t195 (!t211)))))) else (none)))) else (none)))) else (none))))))) = some r := H
   have A8 := Aside0.mk A80
   clear A80
   replace H := Option.bind_eq_some_iff.mp H
   obtain ⟨t186, A90, H⟩ := H
   replace H : ((laws_toGcOpS.f k l1).bind fun t189 => ((laws_toInt64S.f k l2).bind fun t192 => ((impl_GcReach.f a0 t189 t192).bind fun t195 => ((laws_eqInt64S.f k t195 t186).bind fun t198 => (if t198 = true then ((laws_toGcOpS.f k l1).bind fun t199 => ((laws_eqGcOpS.f k t189 t199).bind fun t202 => (if t202 = true then ((laws_toInt64S.f k l2).bind fun t203 => ((laws_eqInt64S.f k t192 t203).bind fun t206 => (if t206 = true then ((laws_markGcOpS.f k t189 1).bind fun bt207 => ((laws_markInt64S.f k t192 bt207.1).bind fun bt209 => (if bt209.1 < 0 then (laws_FnExactGcReach.j0 k a0 l1 l2 t186 t195 true) else ((laws_eqInt64S.f k t195 t186).bind fun t211 => (laws_FnExactGcReach.j0 k a0 l1 l2 t186 t195 (!t211)))))) else (none)))) else (none)))) else (none)))))) = some r := H
   have A9 := Aside0.mk A90
   clear A90
   replace H := Option.bind_eq_some_iff.mp H
   obtain ⟨t189, A100, H⟩ := H
   replace H : ((laws_toInt64S.f k l2).bind fun t192 => ((impl_GcReach.f a0 t189 t192).bind fun t195 => ((laws_eqInt64S.f k t195 t186).bind fun t198 => (if t198 = true then ((laws_toGcOpS.f k l1).bind fun t199 => ((laws_eqGcOpS.f k t189 t199).bind fun t202 => (if t202 = true then ((laws_toInt64S.f k l2).bind fun t203 => ((laws_eqInt64S.f k t192 t203).bind fun t206 => (if t206 = true then ((laws_markGcOpS.f k t189 1).bind fun bt207 => ((laws_markInt64S.f k t192 bt207.1).bind fun bt209 => (if bt209.1 < 0 then (laws_FnExactGcReach.j0 k a0 l1 l2 t186 t195 true) else ((laws_eqInt64S.f k t195 t186).bind fun t211 => (laws_FnExactGcReach.j0 k a0 l1 l2 t186 t195 (!t211)))))) else (none)))) else (none)))) else (none))))) = some r := H
   have A10 := Aside0.mk A100
   clear A100
   replace H := Option.bind_eq_some_iff.mp H
   obtain ⟨t192, A110, H⟩ := H
   replace H : ((impl_GcReach.f a0 t189 t192).bind fun t195 => ((laws_eqInt64S.f k t195 t186).bind fun t198 => (if t198 = true then ((laws_toGcOpS.f k l1).bind fun t199 => ((laws_eqGcOpS.f k t189 t199).bind fun t202 => (if t202 = true then ((laws_toInt64S.f k l2).bind fun t203 => ((laws_eqInt64S.f k t192 t203).bind fun t206 => (if t206 = true then ((laws_markGcOpS.f k t189 1).bind fun bt207 => ((laws_markInt64S.f k t192 bt207.1).bind fun bt209 => (if bt209.1 < 0 then (laws_FnExactGcReach.j0 k a0 l1 l2 t186 t195 true) else ((laws_eqInt64S.f k t195 t186).bind fun t211 => (laws_FnExactGcReach.j0 k a0 l1 l2 t186 t195 (!t211)))))) else (none)))) else (none)))) else (none)))) = some r := H
   have A11 := Aside0.mk A110
   clear A110
   replace H := Option.bind_eq_some_iff.mp H
   obtain ⟨t195, A120, H⟩ := H
   replace H : ((laws_eqInt64S.f k t195 t186).bind fun t198 => (if t198 = true then ((laws_toGcOpS.f k l1).bind fun t199 => ((laws_eqGcOpS.f k t189 t199).bind fun t202 => (if t202 = true then ((laws_toInt64S.f k l2).bind fun t203 => ((laws_eqInt64S.f k t192 t203).bind fun t206 => (if t206 = true then ((laws_markGcOpS.f k t189 1).bind fun bt207 => ((laws_markInt64S.f k t192 bt207.1).bind fun bt209 => (if bt209.1 < 0 then (laws_FnExactGcReach.j0 k a0 l1 l2 t186 t195 true) else ((laws_eqInt64S.f k t195 t186).bind fun t211 => (laws_FnExactGcReach.j0 k a0 l1 l2 t186 t195 (!t211)))))) else (none)))) else (none)))) else (none))) = some r := H
   have A12 := Aside0.mk A120
   clear A120
   replace H := Option.bind_eq_some_iff.mp H
   obtain ⟨t198, A130, H⟩ := H
   replace H : (if t198 = true then ((laws_toGcOpS.f k l1).bind fun t199 => ((laws_eqGcOpS.f k t189 t199).bind fun t202 => (if t202 = true then ((laws_toInt64S.f k l2).bind fun t203 => ((laws_eqInt64S.f k t192 t203).bind fun t206 => (if t206 = true then ((laws_markGcOpS.f k t189 1).bind fun bt207 => ((laws_markInt64S.f k t192 bt207.1).bind fun bt209 => (if bt209.1 < 0 then (laws_FnExactGcReach.j0 k a0 l1 l2 t186 t195 true) else ((laws_eqInt64S.f k t195 t186).bind fun t211 => (laws_FnExactGcReach.j0 k a0 l1 l2 t186 t195 (!t211)))))) else (none)))) else (none)))) else (none)) = some r := H
   have A13 := Aside0.mk A130
   clear A130
   by_cases c14 : t198 = true
   ·subst c14
    have H1 : ((laws_toGcOpS.f k l1).bind fun t199 => ((laws_eqGcOpS.f k t189 t199).bind fun t202 => (if t202 = true then ((laws_toInt64S.f k l2).bind fun t203 => ((laws_eqInt64S.f k t192 t203).bind fun t206 => (if t206 = true then ((laws_markGcOpS.f k t189 1).bind fun bt207 => ((laws_markInt64S.f k t192 bt207.1).bind fun bt209 => (if bt209.1 < 0 then (laws_FnExactGcReach.j0 k a0 l1 l2 t186 t195 true) else ((laws_eqInt64S.f k t195 t186).bind fun t211 => (laws_FnExactGcReach.j0 k a0 l1 l2 t186 t195 (!t211)))))) else (none)))) else (none)))) = some r := by rw [if_pos rfl] at H; exact H
    clear H
    have H := H1
    clear H1
    replace H := Option.bind_eq_some_iff.mp H
    obtain ⟨t199, A150, H⟩ := H
    replace H : ((laws_eqGcOpS.f k t189 t199).bind fun t202 => (if t202 = true then ((laws_toInt64S.f k l2).bind fun t203 => ((laws_eqInt64S.f k t192 t203).bind fun t206 => (if t206 = true then ((laws_markGcOpS.f k t189 1).bind fun bt207 => ((laws_markInt64S.f k t192 bt207.1).bind fun bt209 => (if bt209.1 < 0 then (laws_FnExactGcReach.j0 k a0 l1 l2 t186 t195 true) else ((laws_eqInt64S.f k t195 t186).bind fun t211 => (laws_FnExactGcReach.j0 k a0 l1 l2 t186 t195 (!t211)))))) else (none)))) else (none))) = some r := H
    have A15 := Aside0.mk A150
    clear A150
    replace H := Option.bind_eq_some_iff.mp H
    obtain ⟨t202, A160, H⟩ := H
    replace H : (if t202 = true then ((laws_toInt64S.f k l2).bind fun t203 => ((laws_eqInt64S.f k t192 t203).bind fun t206 => (if t206 = true then ((laws_markGcOpS.f k t189 1).bind fun bt207 => ((laws_markInt64S.f k t192 bt207.1).bind fun bt209 => (if bt209.1 < 0 then (laws_FnExactGcReach.j0 k a0 l1 l2 t186 t195 true) else ((laws_eqInt64S.f k t195 t186).bind fun t211 => (laws_FnExactGcReach.j0 k a0 l1 l2 t186 t195 (!t211)))))) else (none)))) else (none)) = some r := H
    have A16 := Aside0.mk A160
    clear A160
    by_cases c17 : t202 = true
    ·subst c17
     have H1 : ((laws_toInt64S.f k l2).bind fun t203 => ((laws_eqInt64S.f k t192 t203).bind fun t206 => (if t206 = true then ((laws_markGcOpS.f k t189 1).bind fun bt207 => ((laws_markInt64S.f k t192 bt207.1).bind fun bt209 => (if bt209.1 < 0 then (laws_FnExactGcReach.j0 k a0 l1 l2 t186 t195 true) else ((laws_eqInt64S.f k t195 t186).bind fun t211 => (laws_FnExactGcReach.j0 k a0 l1 l2 t186 t195 (!t211)))))) else (none)))) = some r := by rw [if_pos rfl] at H; exact H
     clear H
     have H := H1
     clear H1
     replace H := Option.bind_eq_some_iff.mp H
     obtain ⟨t203, A180, H⟩ := H
     replace H : ((laws_eqInt64S.f k t192 t203).bind fun t206 => (if t206 = true then ((laws_markGcOpS.f k t189 1).bind fun bt207 => ((laws_markInt64S.f k t192 bt207.1).bind fun bt209 => (if bt209.1 < 0 then (laws_FnExactGcReach.j0 k a0 l1 l2 t186 t195 true) else ((laws_eqInt64S.f k t195 t186).bind fun t211 => (laws_FnExactGcReach.j0 k a0 l1 l2 t186 t195 (!t211)))))) else (none))) = some r := H
     have A18 := Aside0.mk A180
     clear A180
     replace H := Option.bind_eq_some_iff.mp H
     obtain ⟨t206, A190, H⟩ := H
     replace H : (if t206 = true then ((laws_markGcOpS.f k t189 1).bind fun bt207 => ((laws_markInt64S.f k t192 bt207.1).bind fun bt209 => (if bt209.1 < 0 then (laws_FnExactGcReach.j0 k a0 l1 l2 t186 t195 true) else ((laws_eqInt64S.f k t195 t186).bind fun t211 => (laws_FnExactGcReach.j0 k a0 l1 l2 t186 t195 (!t211)))))) else (none)) = some r := H
     have A19 := Aside0.mk A190
     clear A190
     by_cases c20 : t206 = true
     ·subst c20
      have H1 : ((laws_markGcOpS.f k t189 1).bind fun bt207 => ((laws_markInt64S.f k t192 bt207.1).bind fun bt209 => (if bt209.1 < 0 then (laws_FnExactGcReach.j0 k a0 l1 l2 t186 t195 true) else ((laws_eqInt64S.f k t195 t186).bind fun t211 => (laws_FnExactGcReach.j0 k a0 l1 l2 t186 t195 (!t211)))))) = some r := by rw [if_pos rfl] at H; exact H
      clear H
      have H := H1
      clear H1
      replace H := Option.bind_eq_some_iff.mp H
      obtain ⟨⟨t207, t208⟩, A210, H⟩ := H
      replace H : ((laws_markInt64S.f k t192 t207).bind fun bt209 => (if bt209.1 < 0 then (laws_FnExactGcReach.j0 k a0 l1 l2 t186 t195 true) else ((laws_eqInt64S.f k t195 t186).bind fun t211 => (laws_FnExactGcReach.j0 k a0 l1 l2 t186 t195 (!t211))))) = some r := H
      have A21 := Aside0.mk A210
      clear A210
      replace H := Option.bind_eq_some_iff.mp H
      obtain ⟨⟨t209, t210⟩, A220, H⟩ := H
      replace H : (if t209 < 0 then (laws_FnExactGcReach.j0 k a0 l1 l2 t186 t195 true) else ((laws_eqInt64S.f k t195 t186).bind fun t211 => (laws_FnExactGcReach.j0 k a0 l1 l2 t186 t195 (!t211)))) = some r := H
      have A22 := Aside0.mk A220
      clear A220
      have HC23 := Aside0.mk H
      clear H
      go_enter Try.func3, Try.ntmps3
      go_upto_region 20 with (first | ((with_reducible refine gate_callee (f := 7) rfl ?_); refine goesL_ (some 21) rfl rfl Try.func7 (by kernel_rfl) rfl #[.slice A1 l1.length c1, .int .i64 1048576] rfl (by (try simp only [List.map_toArray, List.map_cons, List.map_nil]); first | done | rfl | (simp only [List.length_drop, List.length_take]; rfl)) ?_; (with_reducible refine (laws_szGcOpS.calls _ _ l1 1048576 t179 _ ?side1 ?side2 A5.out).mono ?_); (case side1 => repeat (first | exact HR1.out | (with_reducible refine Kd.C_alloc ?_ _) | (with_reducible refine Kd.C_drewN ?_ _) | (with_reducible refine Kd.C_drew ?_))); (case side2 => exact HC1.out); rintro e w' ⟨rfl, ⟨nd, rfl⟩⟩; refine ⟨_, rfl, ?_⟩) | ((with_reducible refine gate_callee (f := 9) rfl ?_); refine goesL_ (some 26) rfl rfl Try.func9 (by kernel_rfl) rfl #[.slice A1 l1.length c1] rfl (by (try simp only [List.map_toArray, List.map_cons, List.map_nil]); first | done | rfl | (simp only [List.length_drop, List.length_take]; rfl)) ?_; (with_reducible refine (laws_toGcOpS.calls k _ _ l1 t180 _ ?side1 ?side2 A7.out).mono ?_); (case side1 => repeat (first | exact HR1.out | (with_reducible refine Kd.C_alloc ?_ _) | (with_reducible refine Kd.C_drewN ?_ _) | (with_reducible refine Kd.C_drew ?_))); (case side2 => exact HC1.out); rintro e w24 ⟨v181, rfl, ho0, hb⟩; refine ⟨_, rfl, ?_⟩; have n0_ := Aside0.mk (Kd.R_lower ho0 (below_size (by repeat (first | (with_reducible first | exact HB.out | apply below_alloc | apply pw_below_drewN | apply below_drew1) | exact HB.out)))); have n1_ := Aside0.mk (below_step (by repeat (first | (with_reducible first | exact HB.out | apply below_alloc | apply pw_below_drewN | apply below_drew1) | exact HB.out)) hb); clear HB; have HO182 := n0_; have HB := n1_; clear n0_ n1_; (try clear hb); (try clear hb2); (try clear hk); (try clear hi); (try clear ho0)) | ((with_reducible refine gate_callee (f := 10) rfl ?_); refine goesL_ (some 28) rfl rfl Try.func10 (by kernel_rfl) rfl #[.slice A2 l2.length c2] rfl (by (try simp only [List.map_toArray, List.map_cons, List.map_nil]); first | done | rfl | (simp only [List.length_drop, List.length_take]; rfl)) ?_; (with_reducible refine (laws_toInt64S.calls k _ _ l2 t183 _ ?side1 ?side2 A8.out).mono ?_); (case side1 => repeat (first | exact (Kd.C_below HR2.out HB.out) | (with_reducible refine Kd.C_alloc ?_ _) | (with_reducible refine Kd.C_drewN ?_ _) | (with_reducible refine Kd.C_drew ?_))); (case side2 => exact HC2.out); rintro e w25 ⟨v184, rfl, ho0, hb⟩; refine ⟨_, rfl, ?_⟩; have n0_ := Aside0.mk (Kd.R_below (by (with_reducible repeat (first | apply Kd.R_alloc | apply Kd.R_drewN | apply Kd.R_drew)); exact HO182.out) hb); have n1_ := Aside0.mk (Kd.R_lower ho0 (below_size (by repeat (first | (with_reducible first | exact HB.out | apply below_alloc | apply pw_below_drewN | apply below_drew1) | exact HB.out)))); have n2_ := Aside0.mk (below_step (by repeat (first | (with_reducible first | exact HB.out | apply below_alloc | apply pw_below_drewN | apply below_drew1) | exact HB.out)) hb); clear HO182; clear HB; have HO182 := n0_; have HO185 := n1_; have HB := n2_; clear n0_ n1_ n2_; (try clear hb); (try clear hb2); (try clear hk); (try clear hi); (try clear ho0); obtain ⟨Ao26, co26, eo26⟩ := Kd.R_slice HO182.out; subst eo26; obtain ⟨Ao27, co27, eo27⟩ := Kd.R_slice HO185.out; subst eo27) | ((with_reducible refine gate_callee (f := 8) rfl ?_); refine goesL_ (some 29) rfl rfl Try.func8 (by kernel_rfl) rfl #[.int .i64 a0, .slice Ao26 t180.length co26, .slice Ao27 t183.length co27] rfl (by (try simp only [List.map_toArray, List.map_cons, List.map_nil]); first | done | rfl | (simp only [List.length_drop, List.length_take]; rfl)) ?_; (with_reducible refine (spec_GcReach.calls k a0 _ _ t180 _ _ t183 t186 _ ?side1 ?side2 ?side3 ?side4 A9.out).mono ?_); (case side1 => repeat (first | exact (Kd.R_reads' HO182.out).2.2 | (with_reducible refine Kd.C_alloc ?_ _) | (with_reducible refine Kd.C_drewN ?_ _) | (with_reducible refine Kd.C_drew ?_))); (case side2 => exact (Kd.R_reads' HO182.out).2.1); (case side3 => repeat (first | exact (Kd.R_reads' HO185.out).2.2 | (with_reducible refine Kd.C_alloc ?_ _) | (with_reducible refine Kd.C_drewN ?_ _) | (with_reducible refine Kd.C_drew ?_))); (case side4 => exact (Kd.R_reads' HO185.out).2.1); rintro e w28 ⟨v187, rfl, ho0, hb⟩; refine ⟨_, rfl, ?_⟩; have n0_ := Aside0.mk (Kd.R_below (by (with_reducible repeat (first | apply Kd.R_alloc | apply Kd.R_drewN | apply Kd.R_drew)); exact HO182.out) hb); have n1_ := Aside0.mk (Kd.R_elder' (by (with_reducible repeat (first | apply Kd.R_alloc | apply Kd.R_drewN | apply Kd.R_drew)); exact HO185.out) (Kd.R_base ho0) hb); have n2_ := Aside0.mk (Kd.R_lower (Kd.R_new' ho0 (Kd.R_lt (by (with_reducible repeat (first | apply Kd.R_alloc | apply Kd.R_drewN | apply Kd.R_drew)); exact HO185.out))) (below_size (by repeat (first | (with_reducible first | exact HB.out | apply below_alloc | apply pw_below_drewN | apply below_drew1) | exact HB.out)))); have n3_ := Aside0.mk (below_step (by repeat (first | (with_reducible first | exact HB.out | apply below_alloc | apply pw_below_drewN | apply below_drew1) | exact HB.out)) hb); clear HO182; clear HO185; clear HB; have HO182 := n0_; have HO185 := n1_; have HO188 := n2_; have HB := n3_; clear n0_ n1_ n2_ n3_; (try clear hb); (try clear hb2); (try clear hk); (try clear hi); (try clear ho0)) | ((with_reducible refine gate_callee (f := 9) rfl ?_); refine goesL_ (some 31) rfl rfl Try.func9 (by kernel_rfl) rfl #[.slice A1 l1.length c1] rfl (by (try simp only [List.map_toArray, List.map_cons, List.map_nil]); first | done | rfl | (simp only [List.length_drop, List.length_take]; rfl)) ?_; (with_reducible refine (laws_toGcOpS.calls k _ _ l1 t189 _ ?side1 ?side2 A10.out).mono ?_); (case side1 => repeat (first | exact (Kd.C_below HR1.out HB.out) | (with_reducible refine Kd.C_alloc ?_ _) | (with_reducible refine Kd.C_drewN ?_ _) | (with_reducible refine Kd.C_drew ?_))); (case side2 => exact HC1.out); rintro e w29 ⟨v190, rfl, ho0, hb⟩; refine ⟨_, rfl, ?_⟩; have n0_ := Aside0.mk (Kd.R_elder' (by (with_reducible repeat (first | apply Kd.R_alloc | apply Kd.R_drewN | apply Kd.R_drew)); exact HO182.out) (Kd.R_base ho0) hb); have n1_ := Aside0.mk (Kd.R_below (by (with_reducible repeat (first | apply Kd.R_alloc | apply Kd.R_drewN | apply Kd.R_drew)); exact HO185.out) hb); have n2_ := Aside0.mk (Kd.R_below (by (with_reducible repeat (first | apply Kd.R_alloc | apply Kd.R_drewN | apply Kd.R_drew)); exact HO188.out) hb); have n3_ := Aside0.mk (Kd.R_lower (Kd.R_new' ho0 (Kd.R_lt (by (with_reducible repeat (first | apply Kd.R_alloc | apply Kd.R_drewN | apply Kd.R_drew)); exact HO182.out))) (below_size (by repeat (first | (with_reducible first | exact HB.out | apply below_alloc | apply pw_below_drewN | apply below_drew1) | exact HB.out)))); have n4_ := Aside0.mk (below_step (by repeat (first | (with_reducible first | exact HB.out | apply below_alloc | apply pw_below_drewN | apply below_drew1) | exact HB.out)) hb); clear HO182; clear HO185; clear HO188; clear HB; have HO182 := n0_; have HO185 := n1_; have HO188 := n2_; have HO191 := n3_; have HB := n4_; clear n0_ n1_ n2_ n3_ n4_; (try clear hb); (try clear hb2); (try clear hk); (try clear hi); (try clear ho0)) | ((with_reducible refine gate_callee (f := 10) rfl ?_); refine goesL_ (some 33) rfl rfl Try.func10 (by kernel_rfl) rfl #[.slice A2 l2.length c2] rfl (by (try simp only [List.map_toArray, List.map_cons, List.map_nil]); first | done | rfl | (simp only [List.length_drop, List.length_take]; rfl)) ?_; (with_reducible refine (laws_toInt64S.calls k _ _ l2 t192 _ ?side1 ?side2 A11.out).mono ?_); (case side1 => repeat (first | exact (Kd.C_below HR2.out HB.out) | (with_reducible refine Kd.C_alloc ?_ _) | (with_reducible refine Kd.C_drewN ?_ _) | (with_reducible refine Kd.C_drew ?_))); (case side2 => exact HC2.out); rintro e w30 ⟨v193, rfl, ho0, hb⟩; refine ⟨_, rfl, ?_⟩; have n0_ := Aside0.mk (Kd.R_below (by (with_reducible repeat (first | apply Kd.R_alloc | apply Kd.R_drewN | apply Kd.R_drew)); exact HO182.out) hb); have n1_ := Aside0.mk (Kd.R_elder' (by (with_reducible repeat (first | apply Kd.R_alloc | apply Kd.R_drewN | apply Kd.R_drew)); exact HO185.out) (Kd.R_base ho0) hb); have n2_ := Aside0.mk (Kd.R_elder' (by (with_reducible repeat (first | apply Kd.R_alloc | apply Kd.R_drewN | apply Kd.R_drew)); exact HO188.out) (Kd.R_base ho0) hb); have n3_ := Aside0.mk (Kd.R_below (by (with_reducible repeat (first | apply Kd.R_alloc | apply Kd.R_drewN | apply Kd.R_drew)); exact HO191.out) hb); have n4_ := Aside0.mk (Kd.R_lower (Kd.R_new' (Kd.R_new' ho0 (Kd.R_lt (by (with_reducible repeat (first | apply Kd.R_alloc | apply Kd.R_drewN | apply Kd.R_drew)); exact HO185.out))) (Kd.R_lt (by (with_reducible repeat (first | apply Kd.R_alloc | apply Kd.R_drewN | apply Kd.R_drew)); exact HO188.out))) (below_size (by repeat (first | (with_reducible first | exact HB.out | apply below_alloc | apply pw_below_drewN | apply below_drew1) | exact HB.out)))); have n5_ := Aside0.mk (below_step (by repeat (first | (with_reducible first | exact HB.out | apply below_alloc | apply pw_below_drewN | apply below_drew1) | exact HB.out)) hb); clear HO182; clear HO185; clear HO188; clear HO191; clear HB; have HO182 := n0_; have HO185 := n1_; have HO188 := n2_; have HO191 := n3_; have HO194 := n4_; have HB := n5_; clear n0_ n1_ n2_ n3_ n4_ n5_; (try clear hb); (try clear hb2); (try clear hk); (try clear hi); (try clear ho0); obtain ⟨Ao31, co31, eo31⟩ := Kd.R_slice HO191.out; subst eo31; obtain ⟨Ao32, co32, eo32⟩ := Kd.R_slice HO194.out; subst eo32) | ((with_reducible refine gate_callee (f := 11) rfl ?_); refine goesL_ (some 37) rfl rfl Try.func11 (by kernel_rfl) rfl #[.int .i64 a0, .slice Ao31 t189.length co31, .slice Ao32 t192.length co32] rfl (by (try simp only [List.map_toArray, List.map_cons, List.map_nil]); first | done | rfl | (simp only [List.length_drop, List.length_take]; rfl)) ?_; (with_reducible refine (impl_GcReach.calls a0 _ _ t189 _ _ t192 t195 _ ?side1 ?side2 ?side3 ?side4 A12.out).mono ?_); (case side1 => repeat (first | exact (Kd.R_reads' HO191.out).2.2 | (with_reducible refine Kd.C_alloc ?_ _) | (with_reducible refine Kd.C_drewN ?_ _) | (with_reducible refine Kd.C_drew ?_))); (case side2 => exact (Kd.R_reads' HO191.out).2.1); (case side3 => repeat (first | exact (Kd.R_reads' HO194.out).2.2 | (with_reducible refine Kd.C_alloc ?_ _) | (with_reducible refine Kd.C_drewN ?_ _) | (with_reducible refine Kd.C_drew ?_))); (case side4 => exact (Kd.R_reads' HO194.out).2.1); rintro e w33 ⟨v196, rfl, ho0, hb⟩; refine ⟨_, rfl, ?_⟩; have n0_ := Aside0.mk (Kd.R_below (by (with_reducible repeat (first | apply Kd.R_alloc | apply Kd.R_drewN | apply Kd.R_drew)); exact HO182.out) hb); have n1_ := Aside0.mk (Kd.R_elder' (by (with_reducible repeat (first | apply Kd.R_alloc | apply Kd.R_drewN | apply Kd.R_drew)); exact HO185.out) (Kd.R_base ho0) hb); have n2_ := Aside0.mk (Kd.R_elder' (by (with_reducible repeat (first | apply Kd.R_alloc | apply Kd.R_drewN | apply Kd.R_drew)); exact HO188.out) (Kd.R_base ho0) hb); have n3_ := Aside0.mk (Kd.R_below (by (with_reducible repeat (first | apply Kd.R_alloc | apply Kd.R_drewN | apply Kd.R_drew)); exact HO191.out) hb); have n4_ := Aside0.mk (Kd.R_elder' (by (with_reducible repeat (first | apply Kd.R_alloc | apply Kd.R_drewN | apply Kd.R_drew)); exact HO194.out) (Kd.R_base ho0) hb); have n5_ := Aside0.mk (Kd.R_lower (Kd.R_new' (Kd.R_new' (Kd.R_new' ho0 (Kd.R_lt (by (with_reducible repeat (first | apply Kd.R_alloc | apply Kd.R_drewN | apply Kd.R_drew)); exact HO185.out))) (Kd.R_lt (by (with_reducible repeat (first | apply Kd.R_alloc | apply Kd.R_drewN | apply Kd.R_drew)); exact HO188.out))) (Kd.R_lt (by (with_reducible repeat (first | apply Kd.R_alloc | apply Kd.R_drewN | apply Kd.R_drew)); exact HO194.out))) (below_size (by repeat (first | (with_reducible first | exact HB.out | apply below_alloc | apply pw_below_drewN | apply below_drew1) | exact HB.out)))); have n6_ := Aside0.mk (below_step (by repeat (first | (with_reducible first | exact HB.out | apply below_alloc | apply pw_below_drewN | apply below_drew1) | exact HB.out)) hb); clear HO182; clear HO185; clear HO188; clear HO191; clear HO194; clear HB; have HO182 := n0_; have HO185 := n1_; have HO188 := n2_; have HO191 := n3_; have HO194 := n4_; have HO197 := n5_; have HB := n6_; clear n0_ n1_ n2_ n3_ n4_ n5_ n6_; (try clear hb); (try clear hb2); (try clear hk); (try clear hi); (try clear ho0); obtain ⟨Ao34, co34, eo34⟩ := Kd.R_slice HO197.out; subst eo34; obtain ⟨Ao35, co35, eo35⟩ := Kd.R_slice HO188.out; subst eo35) | ((with_reducible refine gate_callee (f := 12) rfl ?_); refine goesL_ (some 40) rfl rfl Try.func12 (by kernel_rfl) rfl #[.slice Ao34 t195.length co34, .slice Ao35 t186.length co35] rfl (by (try simp only [List.map_toArray, List.map_cons, List.map_nil]); first | done | rfl | (simp only [List.length_drop, List.length_take]; rfl)) ?_; (with_reducible refine (laws_eqInt64S.calls k _ _ t195 _ _ t186 true _ ?side1 ?side2 ?side3 ?side4 A13.out).mono ?_); (case side1 => repeat (first | exact (Kd.R_reads' HO197.out).2.2 | (with_reducible refine Kd.C_alloc ?_ _) | (with_reducible refine Kd.C_drewN ?_ _) | (with_reducible refine Kd.C_drew ?_))); (case side2 => exact (Kd.R_reads' HO197.out).2.1); (case side3 => repeat (first | exact (Kd.R_reads' HO188.out).2.2 | (with_reducible refine Kd.C_alloc ?_ _) | (with_reducible refine Kd.C_drewN ?_ _) | (with_reducible refine Kd.C_drew ?_))); (case side4 => exact (Kd.R_reads' HO188.out).2.1); rintro e w' ⟨rfl, ⟨nd, rfl⟩⟩; refine ⟨_, rfl, ?_⟩) | ((with_reducible refine gate_callee (f := 9) rfl ?_); refine goesL_ (some 44) rfl rfl Try.func9 (by kernel_rfl) rfl #[.slice A1 l1.length c1] rfl (by (try simp only [List.map_toArray, List.map_cons, List.map_nil]); first | done | rfl | (simp only [List.length_drop, List.length_take]; rfl)) ?_; (with_reducible refine (laws_toGcOpS.calls k _ _ l1 t199 _ ?side1 ?side2 A15.out).mono ?_); (case side1 => repeat (first | exact (Kd.C_below HR1.out (by repeat (first | (with_reducible first | exact HB.out | apply below_alloc | apply pw_below_drewN | apply below_drew1) | exact HB.out))) | (with_reducible refine Kd.C_alloc ?_ _) | (with_reducible refine Kd.C_drewN ?_ _) | (with_reducible refine Kd.C_drew ?_))); (case side2 => exact HC1.out); rintro e w36 ⟨v200, rfl, ho0, hb⟩; refine ⟨_, rfl, ?_⟩; have n0_ := Aside0.mk (Kd.R_elder' (by (with_reducible repeat (first | apply Kd.R_alloc | apply Kd.R_drewN | apply Kd.R_drew)); exact HO182.out) (Kd.R_base ho0) hb); have n1_ := Aside0.mk (Kd.R_below (by (with_reducible repeat (first | apply Kd.R_alloc | apply Kd.R_drewN | apply Kd.R_drew)); exact HO185.out) hb); have n2_ := Aside0.mk (Kd.R_below (by (with_reducible repeat (first | apply Kd.R_alloc | apply Kd.R_drewN | apply Kd.R_drew)); exact HO188.out) hb); have n3_ := Aside0.mk (Kd.R_elder' (by (with_reducible repeat (first | apply Kd.R_alloc | apply Kd.R_drewN | apply Kd.R_drew)); exact HO191.out) (Kd.R_base ho0) hb); have n4_ := Aside0.mk (Kd.R_below (by (with_reducible repeat (first | apply Kd.R_alloc | apply Kd.R_drewN | apply Kd.R_drew)); exact HO194.out) hb); have n5_ := Aside0.mk (Kd.R_below (by (with_reducible repeat (first | apply Kd.R_alloc | apply Kd.R_drewN | apply Kd.R_drew)); exact HO197.out) hb); have n6_ := Aside0.mk (Kd.R_lower (Kd.R_new' (Kd.R_new' ho0 (Kd.R_lt (by (with_reducible repeat (first | apply Kd.R_alloc | apply Kd.R_drewN | apply Kd.R_drew)); exact HO182.out))) (Kd.R_lt (by (with_reducible repeat (first | apply Kd.R_alloc | apply Kd.R_drewN | apply Kd.R_drew)); exact HO191.out))) (below_size (by repeat (first | (with_reducible first | exact HB.out | apply below_alloc | apply pw_below_drewN | apply below_drew1) | exact HB.out)))); have n7_ := Aside0.mk (below_step (by repeat (first | (with_reducible first | exact HB.out | apply below_alloc | apply pw_below_drewN | apply below_drew1) | exact HB.out)) hb); clear HO182; clear HO185; clear HO188; clear HO191; clear HO194; clear HO197; clear HB; have HO182 := n0_; have HO185 := n1_; have HO188 := n2_; have HO191 := n3_; have HO194 := n4_; have HO197 := n5_; have HO201 := n6_; have HB := n7_; clear n0_ n1_ n2_ n3_ n4_ n5_ n6_ n7_; (try clear hb); (try clear hb2); (try clear hk); (try clear hi); (try clear ho0); obtain ⟨Ao37, co37, eo37⟩ := Kd.R_slice HO201.out; subst eo37) | ((with_reducible refine gate_callee (f := 13) rfl ?_); refine goesL_ (some 45) rfl rfl Try.func13 (by kernel_rfl) rfl #[.slice Ao31 t189.length co31, .slice Ao37 t199.length co37] rfl (by (try simp only [List.map_toArray, List.map_cons, List.map_nil]); first | done | rfl | (simp only [List.length_drop, List.length_take]; rfl)) ?_; (with_reducible refine (laws_eqGcOpS.calls k _ _ t189 _ _ t199 true _ ?side1 ?side2 ?side3 ?side4 A16.out).mono ?_); (case side1 => repeat (first | exact (Kd.R_reads' HO191.out).2.2 | (with_reducible refine Kd.C_alloc ?_ _) | (with_reducible refine Kd.C_drewN ?_ _) | (with_reducible refine Kd.C_drew ?_))); (case side2 => exact (Kd.R_reads' HO191.out).2.1); (case side3 => repeat (first | exact (Kd.R_reads' HO201.out).2.2 | (with_reducible refine Kd.C_alloc ?_ _) | (with_reducible refine Kd.C_drewN ?_ _) | (with_reducible refine Kd.C_drew ?_))); (case side4 => exact (Kd.R_reads' HO201.out).2.1); rintro e w38 ⟨rfl, hb⟩; refine ⟨_, rfl, ?_⟩; have n0_ := Aside0.mk (Kd.R_below (by (with_reducible repeat (first | apply Kd.R_alloc | apply Kd.R_drewN | apply Kd.R_drew)); exact HO182.out) hb); have n1_ := Aside0.mk (Kd.R_below (by (with_reducible repeat (first | apply Kd.R_alloc | apply Kd.R_drewN | apply Kd.R_drew)); exact HO185.out) hb); have n2_ := Aside0.mk (Kd.R_below (by (with_reducible repeat (first | apply Kd.R_alloc | apply Kd.R_drewN | apply Kd.R_drew)); exact HO188.out) hb); have n3_ := Aside0.mk (Kd.R_below (by (with_reducible repeat (first | apply Kd.R_alloc | apply Kd.R_drewN | apply Kd.R_drew)); exact HO191.out) hb); have n4_ := Aside0.mk (Kd.R_below (by (with_reducible repeat (first | apply Kd.R_alloc | apply Kd.R_drewN | apply Kd.R_drew)); exact HO194.out) hb); have n5_ := Aside0.mk (Kd.R_below (by (with_reducible repeat (first | apply Kd.R_alloc | apply Kd.R_drewN | apply Kd.R_drew)); exact HO197.out) hb); have n6_ := Aside0.mk (Kd.R_below (by (with_reducible repeat (first | apply Kd.R_alloc | apply Kd.R_drewN | apply Kd.R_drew)); exact HO201.out) hb); have n7_ := Aside0.mk (below_step (by repeat (first | (with_reducible first | exact HB.out | apply below_alloc | apply pw_below_drewN | apply below_drew1) | exact HB.out)) hb); clear HO182; clear HO185; clear HO188; clear HO191; clear HO194; clear HO197; clear HO201; clear HB; have HO182 := n0_; have HO185 := n1_; have HO188 := n2_; have HO191 := n3_; have HO194 := n4_; have HO197 := n5_; have HO201 := n6_; have HB := n7_; clear n0_ n1_ n2_ n3_ n4_ n5_ n6_ n7_; (try clear hb); (try clear hb2); (try clear hk); (try clear hi)) | ((with_reducible refine gate_callee (f := 10) rfl ?_); refine goesL_ (some 49) rfl rfl Try.func10 (by kernel_rfl) rfl #[.slice A2 l2.length c2] rfl (by (try simp only [List.map_toArray, List.map_cons, List.map_nil]); first | done | rfl | (simp only [List.length_drop, List.length_take]; rfl)) ?_; (with_reducible refine (laws_toInt64S.calls k _ _ l2 t203 _ ?side1 ?side2 A18.out).mono ?_); (case side1 => repeat (first | exact (Kd.C_below HR2.out HB.out) | (with_reducible refine Kd.C_alloc ?_ _) | (with_reducible refine Kd.C_drewN ?_ _) | (with_reducible refine Kd.C_drew ?_))); (case side2 => exact HC2.out); rintro e w39 ⟨v204, rfl, ho0, hb⟩; refine ⟨_, rfl, ?_⟩; have n0_ := Aside0.mk (Kd.R_below (by (with_reducible repeat (first | apply Kd.R_alloc | apply Kd.R_drewN | apply Kd.R_drew)); exact HO182.out) hb); have n1_ := Aside0.mk (Kd.R_elder' (by (with_reducible repeat (first | apply Kd.R_alloc | apply Kd.R_drewN | apply Kd.R_drew)); exact HO185.out) (Kd.R_base ho0) hb); have n2_ := Aside0.mk (Kd.R_elder' (by (with_reducible repeat (first | apply Kd.R_alloc | apply Kd.R_drewN | apply Kd.R_drew)); exact HO188.out) (Kd.R_base ho0) hb); have n3_ := Aside0.mk (Kd.R_below (by (with_reducible repeat (first | apply Kd.R_alloc | apply Kd.R_drewN | apply Kd.R_drew)); exact HO191.out) hb); have n4_ := Aside0.mk (Kd.R_elder' (by (with_reducible repeat (first | apply Kd.R_alloc | apply Kd.R_drewN | apply Kd.R_drew)); exact HO194.out) (Kd.R_base ho0) hb); have n5_ := Aside0.mk (Kd.R_elder' (by (with_reducible repeat (first | apply Kd.R_alloc | apply Kd.R_drewN | apply Kd.R_drew)); exact HO197.out) (Kd.R_base ho0) hb); have n6_ := Aside0.mk (Kd.R_below (by (with_reducible repeat (first | apply Kd.R_alloc | apply Kd.R_drewN | apply Kd.R_drew)); exact HO201.out) hb); have n7_ := Aside0.mk (Kd.R_lower (Kd.R_new' (Kd.R_new' (Kd.R_new' (Kd.R_new' ho0 (Kd.R_lt (by (with_reducible repeat (first | apply Kd.R_alloc | apply Kd.R_drewN | apply Kd.R_drew)); exact HO185.out))) (Kd.R_lt (by (with_reducible repeat (first | apply Kd.R_alloc | apply Kd.R_drewN | apply Kd.R_drew)); exact HO188.out))) (Kd.R_lt (by (with_reducible repeat (first | apply Kd.R_alloc | apply Kd.R_drewN | apply Kd.R_drew)); exact HO194.out))) (Kd.R_lt (by (with_reducible repeat (first | apply Kd.R_alloc | apply Kd.R_drewN | apply Kd.R_drew)); exact HO197.out))) (below_size (by repeat (first | (with_reducible first | exact HB.out | apply below_alloc | apply pw_below_drewN | apply below_drew1) | exact HB.out)))); have n8_ := Aside0.mk (below_step (by repeat (first | (with_reducible first | exact HB.out | apply below_alloc | apply pw_below_drewN | apply below_drew1) | exact HB.out)) hb); clear HO182; clear HO185; clear HO188; clear HO191; clear HO194; clear HO197; clear HO201; clear HB; have HO182 := n0_; have HO185 := n1_; have HO188 := n2_; have HO191 := n3_; have HO194 := n4_; have HO197 := n5_; have HO201 := n6_; have HO205 := n7_; have HB := n8_; clear n0_ n1_ n2_ n3_ n4_ n5_ n6_ n7_ n8_; (try clear hb); (try clear hb2); (try clear hk); (try clear hi); (try clear ho0); obtain ⟨Ao40, co40, eo40⟩ := Kd.R_slice HO205.out; subst eo40) | ((with_reducible refine gate_callee (f := 12) rfl ?_); refine goesL_ (some 50) rfl rfl Try.func12 (by kernel_rfl) rfl #[.slice Ao32 t192.length co32, .slice Ao40 t203.length co40] rfl (by (try simp only [List.map_toArray, List.map_cons, List.map_nil]); first | done | rfl | (simp only [List.length_drop, List.length_take]; rfl)) ?_; (with_reducible refine (laws_eqInt64S.calls k _ _ t192 _ _ t203 true _ ?side1 ?side2 ?side3 ?side4 A19.out).mono ?_); (case side1 => repeat (first | exact (Kd.R_reads' HO194.out).2.2 | (with_reducible refine Kd.C_alloc ?_ _) | (with_reducible refine Kd.C_drewN ?_ _) | (with_reducible refine Kd.C_drew ?_))); (case side2 => exact (Kd.R_reads' HO194.out).2.1); (case side3 => repeat (first | exact (Kd.R_reads' HO205.out).2.2 | (with_reducible refine Kd.C_alloc ?_ _) | (with_reducible refine Kd.C_drewN ?_ _) | (with_reducible refine Kd.C_drew ?_))); (case side4 => exact (Kd.R_reads' HO205.out).2.1); rintro e w' ⟨rfl, ⟨nd, rfl⟩⟩; refine ⟨_, rfl, ?_⟩) | ((with_reducible refine gate_callee (f := 14) rfl ?_); refine goesL_ (some 54) rfl rfl Try.func14 (by kernel_rfl) rfl #[.slice Ao31 t189.length co31, .int .i64 1] rfl (by (try simp only [List.map_toArray, List.map_cons, List.map_nil]); first | done | rfl | (simp only [List.length_drop, List.length_take]; rfl)) ?_; (with_reducible refine (laws_markGcOpS.calls k (fun k_ => some k_ = (.slice Ao31 t189.length co31 : Value).ownBlock) (.slice Ao31 t189.length co31) t189 1 t207 t208 w _ ?side1 ?side2 A21.out).mono ?_); (case side1 => repeat (first | (with_reducible first | exact HB.out | apply below_alloc | apply pw_below_drewN | apply below_drew1) | exact HB.out)); (case side2 => exact Kd.R_tight rfl HO191.out); rintro e w41 ⟨rfl, hy0, hb, hkp⟩; refine ⟨_, rfl, ?_⟩; have n0_ := Aside0.mk (Kd.R_mono (ok' := fun k_ => some k_ ≠ (.slice Ao31 t189.length co31 : Value).ownBlock ∧ some k_ ≠ (.slice Ao37 t199.length co37 : Value).ownBlock) (Kd.R_keptB (HO182.out) hkp (fun k_ hk_ hs_ => (hk_.1.2) hs_)) (fun k_ hk_ => ⟨hk_.1.1.2, hk_.1.2⟩)); have n1_ := Aside0.mk (Kd.R_mono (ok' := fun k_ => some k_ ≠ (.slice Ao35 t186.length co35 : Value).ownBlock ∧ some k_ ≠ (.slice Ao32 t192.length co32 : Value).ownBlock ∧ some k_ ≠ (.slice Ao34 t195.length co34 : Value).ownBlock ∧ some k_ ≠ (.slice Ao40 t203.length co40 : Value).ownBlock) (Kd.R_keptB ((Kd.R_apart' HO185.out (Kd.R_typed HO191.out) (by decide))) hkp (fun k_ hk_ hs_ => (hk_.2) hs_)) (fun k_ hk_ => ⟨hk_.1.1.1.1.1.2, hk_.1.1.1.1.2, hk_.1.1.1.2, hk_.1.1.2⟩)); have n2_ := Aside0.mk (Kd.R_mono (ok' := fun k_ => some k_ ≠ (.slice Ao27 t183.length co27 : Value).ownBlock ∧ some k_ ≠ (.slice Ao32 t192.length co32 : Value).ownBlock ∧ some k_ ≠ (.slice Ao34 t195.length co34 : Value).ownBlock ∧ some k_ ≠ (.slice Ao40 t203.length co40 : Value).ownBlock) (Kd.R_keptB ((Kd.R_apart' HO188.out (Kd.R_typed HO191.out) (by decide))) hkp (fun k_ hk_ hs_ => (hk_.2) hs_)) (fun k_ hk_ => ⟨hk_.1.1.1.1.1.2, hk_.1.1.1.1.2, hk_.1.1.1.2, hk_.1.1.2⟩)); have n3_ := Aside0.mk (Kd.R_reok rfl hy0 (fun k_ e_ => HO191.out.1 k_ e_)); have n4_ := Aside0.mk (Kd.R_mono (ok' := fun k_ => some k_ ≠ (.slice Ao27 t183.length co27 : Value).ownBlock ∧ some k_ ≠ (.slice Ao35 t186.length co35 : Value).ownBlock ∧ some k_ ≠ (.slice Ao34 t195.length co34 : Value).ownBlock ∧ some k_ ≠ (.slice Ao40 t203.length co40 : Value).ownBlock) (Kd.R_keptB ((Kd.R_apart' HO194.out (Kd.R_typed HO191.out) (by decide))) hkp (fun k_ hk_ hs_ => (hk_.2) hs_)) (fun k_ hk_ => ⟨hk_.1.1.1.1.1.2, hk_.1.1.1.1.2, hk_.1.1.1.2, hk_.1.1.2⟩)); have n5_ := Aside0.mk (Kd.R_mono (ok' := fun k_ => some k_ ≠ (.slice Ao27 t183.length co27 : Value).ownBlock ∧ some k_ ≠ (.slice Ao35 t186.length co35 : Value).ownBlock ∧ some k_ ≠ (.slice Ao32 t192.length co32 : Value).ownBlock ∧ some k_ ≠ (.slice Ao40 t203.length co40 : Value).ownBlock) (Kd.R_keptB ((Kd.R_apart' HO197.out (Kd.R_typed HO191.out) (by decide))) hkp (fun k_ hk_ hs_ => (hk_.2) hs_)) (fun k_ hk_ => ⟨hk_.1.1.1.1.1.2, hk_.1.1.1.1.2, hk_.1.1.1.2, hk_.1.1.2⟩)); have n6_ := Aside0.mk (Kd.R_mono (ok' := fun k_ => some k_ ≠ (.slice Ao26 t180.length co26 : Value).ownBlock ∧ some k_ ≠ (.slice Ao31 t189.length co31 : Value).ownBlock) (Kd.R_keptB (HO201.out) hkp (fun k_ hk_ hs_ => (hk_.2) hs_)) (fun k_ hk_ => ⟨hk_.1.1.2, hk_.1.2⟩)); have n7_ := Aside0.mk (Kd.R_mono (ok' := fun k_ => some k_ ≠ (.slice Ao27 t183.length co27 : Value).ownBlock ∧ some k_ ≠ (.slice Ao35 t186.length co35 : Value).ownBlock ∧ some k_ ≠ (.slice Ao32 t192.length co32 : Value).ownBlock ∧ some k_ ≠ (.slice Ao34 t195.length co34 : Value).ownBlock) (Kd.R_keptB ((Kd.R_apart' HO205.out (Kd.R_typed HO191.out) (by decide))) hkp (fun k_ hk_ hs_ => (hk_.2) hs_)) (fun k_ hk_ => ⟨hk_.1.1.1.1.1.2, hk_.1.1.1.1.2, hk_.1.1.1.2, hk_.1.1.2⟩)); have n8_ := Aside0.mk (hb); clear HO182; clear HO185; clear HO188; clear HO191; clear HO194; clear HO197; clear HO201; clear HO205; clear HB; have HO182 := n0_; have HO185 := n1_; have HO188 := n2_; have HO191 := n3_; have HO194 := n4_; have HO197 := n5_; have HO201 := n6_; have HO205 := n7_; have HB := n8_; clear n0_ n1_ n2_ n3_ n4_ n5_ n6_ n7_ n8_; (try clear hb); (try clear hkp); (try clear hy0)) | ((with_reducible refine gate_callee (f := 15) rfl ?_); refine goesL_ (some 57) rfl rfl Try.func15 (by kernel_rfl) rfl #[.slice Ao32 t192.length co32, .int .i64 t207] rfl (by (try simp only [List.map_toArray, List.map_cons, List.map_nil]); first | done | rfl | (simp only [List.length_drop, List.length_take]; rfl)) ?_; (with_reducible refine (laws_markInt64S.calls k (fun k_ => some k_ = (.slice Ao32 t192.length co32 : Value).ownBlock) (.slice Ao32 t192.length co32) t192 t207 t209 t210 w _ ?side1 ?side2 A22.out).mono ?_); (case side1 => repeat (first | (with_reducible first | exact HB.out | apply below_alloc | apply pw_below_drewN | apply below_drew1) | exact HB.out)); (case side2 => exact Kd.R_tight rfl HO194.out); rintro e w42 ⟨rfl, hy0, hb, hkp⟩; refine ⟨_, rfl, ?_⟩; have n0_ := Aside0.mk (Kd.R_mono (ok' := fun k_ => some k_ ≠ (.slice Ao31 t189.length co31 : Value).ownBlock ∧ some k_ ≠ (.slice Ao37 t199.length co37 : Value).ownBlock) (Kd.R_keptB ((Kd.R_apart' HO182.out (Kd.R_typed HO194.out) (by decide))) hkp (fun k_ hk_ hs_ => (hk_.2) hs_)) (fun k_ hk_ => ⟨hk_.1.1.1, hk_.1.1.2⟩)); have n1_ := Aside0.mk (Kd.R_mono (ok' := fun k_ => some k_ ≠ (.slice Ao35 t186.length co35 : Value).ownBlock ∧ some k_ ≠ (.slice Ao32 t192.length co32 : Value).ownBlock ∧ some k_ ≠ (.slice Ao34 t195.length co34 : Value).ownBlock ∧ some k_ ≠ (.slice Ao40 t203.length co40 : Value).ownBlock) (Kd.R_keptB (HO185.out) hkp (fun k_ hk_ hs_ => (hk_.2.1) hs_)) (fun k_ hk_ => ⟨hk_.1.1, hk_.1.2.1, hk_.1.2.2.1, hk_.1.2.2.2⟩)); have n2_ := Aside0.mk (Kd.R_mono (ok' := fun k_ => some k_ ≠ (.slice Ao27 t183.length co27 : Value).ownBlock ∧ some k_ ≠ (.slice Ao32 t192.length co32 : Value).ownBlock ∧ some k_ ≠ (.slice Ao34 t195.length co34 : Value).ownBlock ∧ some k_ ≠ (.slice Ao40 t203.length co40 : Value).ownBlock) (Kd.R_keptB (HO188.out) hkp (fun k_ hk_ hs_ => (hk_.2.1) hs_)) (fun k_ hk_ => ⟨hk_.1.1, hk_.1.2.1, hk_.1.2.2.1, hk_.1.2.2.2⟩)); have n3_ := Aside0.mk (Kd.R_mono (ok' := fun k_ => some k_ ≠ (.slice Ao26 t180.length co26 : Value).ownBlock ∧ some k_ ≠ (.slice Ao37 t199.length co37 : Value).ownBlock) (Kd.R_keptB ((Kd.R_apart' HO191.out (Kd.R_typed HO194.out) (by decide))) hkp (fun k_ hk_ hs_ => (hk_.2) hs_)) (fun k_ hk_ => ⟨hk_.1.1.1.2, hk_.1.1.2⟩)); have n4_ := Aside0.mk (Kd.R_reok rfl hy0 (fun k_ e_ => HO194.out.1 k_ e_)); have n5_ := Aside0.mk (Kd.R_mono (ok' := fun k_ => some k_ ≠ (.slice Ao27 t183.length co27 : Value).ownBlock ∧ some k_ ≠ (.slice Ao35 t186.length co35 : Value).ownBlock ∧ some k_ ≠ (.slice Ao32 t192.length co32 : Value).ownBlock ∧ some k_ ≠ (.slice Ao40 t203.length co40 : Value).ownBlock) (Kd.R_keptB (HO197.out) hkp (fun k_ hk_ hs_ => (hk_.2.2.1) hs_)) (fun k_ hk_ => ⟨hk_.1.1, hk_.1.2.1, hk_.1.2.2.1, hk_.1.2.2.2⟩)); have n6_ := Aside0.mk (Kd.R_mono (ok' := fun k_ => some k_ ≠ (.slice Ao26 t180.length co26 : Value).ownBlock ∧ some k_ ≠ (.slice Ao31 t189.length co31 : Value).ownBlock) (Kd.R_keptB ((Kd.R_apart' HO201.out (Kd.R_typed HO194.out) (by decide))) hkp (fun k_ hk_ hs_ => (hk_.2) hs_)) (fun k_ hk_ => ⟨hk_.1.1.1, hk_.1.1.2⟩)); have n7_ := Aside0.mk (Kd.R_mono (ok' := fun k_ => some k_ ≠ (.slice Ao27 t183.length co27 : Value).ownBlock ∧ some k_ ≠ (.slice Ao35 t186.length co35 : Value).ownBlock ∧ some k_ ≠ (.slice Ao32 t192.length co32 : Value).ownBlock ∧ some k_ ≠ (.slice Ao34 t195.length co34 : Value).ownBlock) (Kd.R_keptB (HO205.out) hkp (fun k_ hk_ hs_ => (hk_.2.2.1) hs_)) (fun k_ hk_ => ⟨hk_.1.1, hk_.1.2.1, hk_.1.2.2.1, hk_.1.2.2.2⟩)); have n8_ := Aside0.mk (hb); clear HO182; clear HO185; clear HO188; clear HO191; clear HO194; clear HO197; clear HO201; clear HO205; clear HB; have HO182 := n0_; have HO185 := n1_; have HO188 := n2_; have HO191 := n3_; have HO194 := n4_; have HO197 := n5_; have HO201 := n6_; have HO205 := n7_; have HB := n8_; clear n0_ n1_ n2_ n3_ n4_ n5_ n6_ n7_ n8_; (try clear hb); (try clear hkp); (try clear hy0)))
      (try simp only [Act.put, List.setIfInBounds_toArray, List.set_cons_zero, List.set_cons_succ])
      go_cut [65] (fun v65 wc => ∃ (kq : Nat) (x65_22 : Bool), v65 = .bool x65_22 ∧ Aside0 (laws_FnExactGcReach.j0 kq a0 l1 l2 t186 t195 x65_22 = some r) ∧ Aside0 (kq ≤ k) ∧ Aside0 (Kd.R (Kd.int .i64) 2 wc w.heap.size (fun k_ => some k_ ≠ ((.slice Ao34 t195.length co34) : Value).ownBlock) (.slice Ao35 t186.length co35) t186) ∧ Aside0 (Kd.R (Kd.int .i64) 2 wc w.heap.size (fun k_ => some k_ ≠ ((.slice Ao35 t186.length co35) : Value).ownBlock) (.slice Ao34 t195.length co34) t195) ∧ Aside0 (Below w.heap.size w wc))
      case first =>
       have H := HC23.out
       clear HC23
       by_cases c43 : t209 < 0
       ·rw [if_pos c43] at H
        have c43b0 : decide (t209 < 0) = true := decide_eq_true c43
        clear c43
        (first | rw [c43b0] | (simp only [i64_w, i32_w]; rw [c43b0]) | skip)
        have H' := Aside0.mk H
        clear H
        go_wp2
        go_meet
        case rel => exact ⟨_, (true), (by first | rfl | (simp; done) | (simp [*]; done)), H', ⟨by first | omega | exact Nat.le_refl _⟩, ⟨by (with_reducible repeat (first | apply Kd.R_alloc | apply Kd.R_drewN | apply Kd.R_drew)); exact Kd.R_mono HO188.out (fun _ hk => hk.2.2.1)⟩, ⟨by (with_reducible repeat (first | apply Kd.R_alloc | apply Kd.R_drewN | apply Kd.R_drew)); exact Kd.R_mono HO197.out (fun _ hk => hk.2.1)⟩, ⟨by repeat (first | (with_reducible first | exact HB.out | apply below_alloc | apply pw_below_drewN | apply below_drew1) | exact HB.out)⟩⟩
       ·rw [if_neg c43] at H
        have c43b0 : decide (t209 < 0) = false := decide_eq_false c43
        clear c43
        (first | rw [c43b0] | (simp only [i64_w, i32_w]; rw [c43b0]) | skip)
        replace H := Option.bind_eq_some_iff.mp H
        obtain ⟨t211, A440, H⟩ := H
        replace H : (laws_FnExactGcReach.j0 k a0 l1 l2 t186 t195 (!t211)) = some r := H
        have A44 := Aside0.mk A440
        clear A440
        have H' := Aside0.mk H
        clear H
        go_wp2_with (first | (go_at_call 12; (with_reducible refine (laws_eqInt64S.calls k _ _ t195 _ _ t186 t211 _ ?side1 ?side2 ?side3 ?side4 A44.out).mono ?_); (case side1 => repeat (first | exact (Kd.R_reads' HO197.out).2.2 | (with_reducible refine Kd.C_alloc ?_ _) | (with_reducible refine Kd.C_drewN ?_ _) | (with_reducible refine Kd.C_drew ?_))); (case side2 => exact (Kd.R_reads' HO197.out).2.1); (case side3 => repeat (first | exact (Kd.R_reads' HO188.out).2.2 | (with_reducible refine Kd.C_alloc ?_ _) | (with_reducible refine Kd.C_drewN ?_ _) | (with_reducible refine Kd.C_drew ?_))); (case side4 => exact (Kd.R_reads' HO188.out).2.1); rintro e w' ⟨rfl, ⟨nd, rfl⟩⟩))
        go_meet
        case rel => exact ⟨_, (!t211), (by first | rfl | (simp; done) | (simp [*]; done)), H', ⟨by first | omega | exact Nat.le_refl _⟩, ⟨by (with_reducible repeat (first | apply Kd.R_alloc | apply Kd.R_drewN | apply Kd.R_drew)); exact Kd.R_mono HO188.out (fun _ hk => hk.2.2.1)⟩, ⟨by (with_reducible repeat (first | apply Kd.R_alloc | apply Kd.R_drewN | apply Kd.R_drew)); exact Kd.R_mono HO197.out (fun _ hk => hk.2.1)⟩, ⟨by repeat (first | (with_reducible first | exact HB.out | apply below_alloc | apply pw_below_drewN | apply below_drew1) | exact HB.out)⟩⟩
      case rest =>
       clear HC23
       try clear c1
       try clear c2
       try clear p2
       try clear c3
       try clear c4
       try clear c4b0
       try clear c4b1
       try clear c6
       try clear c6b0
       try clear c7
       try clear c8
       try clear c9
       try clear c10
       try clear c11
       try clear c12
       try clear c13
       try clear c14
       try clear c15
       try clear c17
       try clear c20
       try clear c43
       try clear c43b0
       obtain ⟨kq, x65_22, rfl, HA, HJ22, HO_8, HO_11, HB⟩ := hcut
       cases kq with
       | zero => exact absurd HA.out (by simp [laws_FnExactGcReach.j0])
       | succ kj22 =>
        have H := HA.out
        clear HA
        simp only [laws_FnExactGcReach.j0] at H
        by_cases c45 : x65_22 = true
        ·subst c45
         have H1 : (none) = some r := by rw [if_pos rfl] at H; exact H
         clear H
         have H := H1
         clear H1
         exact absurd H (by simp)
        ·replace c45 := Bool.eq_false_iff.mpr c45
         subst c45
         have H1 : ((laws_markInt64S.f kj22 t195 1).bind fun bt212 => ((laws_heldInt64S.f kj22 bt212.2 1).bind fun t214 => (if t214 < 0 then (none) else (if t214 = bt212.1 then ((laws_toGcOpS.f kj22 l1).bind fun t215 => ((laws_toInt64S.f kj22 l2).bind fun t218 => ((impl_GcReach.f a0 t215 t218).bind fun t221 => ((laws_eqInt64S.f kj22 t221 t186).bind fun t224 => (if t224 = true then ((laws_heldInt64S.f kj22 bt212.2 1).bind fun t225 => (if t225 < 0 then (none) else (if t225 = bt212.1 then (some true) else (none)))) else (none)))))) else (none))))) = some r := by rw [if_neg (show ¬ (false = true) by decide)] at H; exact H
         clear H
         have H := H1
         clear H1
         replace H := Option.bind_eq_some_iff.mp H
         obtain ⟨⟨t212, t213⟩, A460, H⟩ := H
         replace H : ((laws_heldInt64S.f kj22 t213 1).bind fun t214 => (if t214 < 0 then (none) else (if t214 = t212 then ((laws_toGcOpS.f kj22 l1).bind fun t215 => ((laws_toInt64S.f kj22 l2).bind fun t218 => ((impl_GcReach.f a0 t215 t218).bind fun t221 => ((laws_eqInt64S.f kj22 t221 t186).bind fun t224 => (if t224 = true then ((laws_heldInt64S.f kj22 t213 1).bind fun t225 => (if t225 < 0 then (none) else (if t225 = t212 then (some true) else (none)))) else (none)))))) else (none)))) = some r := H
         have A46 := Aside0.mk A460
         clear A460
         replace H := Option.bind_eq_some_iff.mp H
         obtain ⟨t214, A470, H⟩ := H
         replace H : (if t214 < 0 then (none) else (if t214 = t212 then ((laws_toGcOpS.f kj22 l1).bind fun t215 => ((laws_toInt64S.f kj22 l2).bind fun t218 => ((impl_GcReach.f a0 t215 t218).bind fun t221 => ((laws_eqInt64S.f kj22 t221 t186).bind fun t224 => (if t224 = true then ((laws_heldInt64S.f kj22 t213 1).bind fun t225 => (if t225 < 0 then (none) else (if t225 = t212 then (some true) else (none)))) else (none)))))) else (none))) = some r := H
         have A47 := Aside0.mk A470
         clear A470
         by_cases c48 : t214 < 0
         ·rw [if_pos c48] at H
          exact absurd H (by simp)
         ·rw [if_neg c48] at H
          have c48b0 : decide (t214 < 0) = false := decide_eq_false c48
          clear c48
          by_cases c49 : t214 = t212
          ·rw [if_pos c49] at H
           have c49b0 : (t214 == t212) = true := beq_iff_eq.mpr c49
           have c49b1 : (t214 != t212) = false := bne_eq_false_iff_eq.mpr c49
           clear c49
           replace H := Option.bind_eq_some_iff.mp H
           obtain ⟨t215, A500, H⟩ := H
           replace H : ((laws_toInt64S.f kj22 l2).bind fun t218 => ((impl_GcReach.f a0 t215 t218).bind fun t221 => ((laws_eqInt64S.f kj22 t221 t186).bind fun t224 => (if t224 = true then ((laws_heldInt64S.f kj22 t213 1).bind fun t225 => (if t225 < 0 then (none) else (if t225 = t212 then (some true) else (none)))) else (none))))) = some r := H
           have A50 := Aside0.mk A500
           clear A500
           replace H := Option.bind_eq_some_iff.mp H
           obtain ⟨t218, A510, H⟩ := H
           replace H : ((impl_GcReach.f a0 t215 t218).bind fun t221 => ((laws_eqInt64S.f kj22 t221 t186).bind fun t224 => (if t224 = true then ((laws_heldInt64S.f kj22 t213 1).bind fun t225 => (if t225 < 0 then (none) else (if t225 = t212 then (some true) else (none)))) else (none)))) = some r := H
           have A51 := Aside0.mk A510
           clear A510
           replace H := Option.bind_eq_some_iff.mp H
           obtain ⟨t221, A520, H⟩ := H
           replace H : ((laws_eqInt64S.f kj22 t221 t186).bind fun t224 => (if t224 = true then ((laws_heldInt64S.f kj22 t213 1).bind fun t225 => (if t225 < 0 then (none) else (if t225 = t212 then (some true) else (none)))) else (none))) = some r := H
           have A52 := Aside0.mk A520
           clear A520
           replace H := Option.bind_eq_some_iff.mp H
           obtain ⟨t224, A530, H⟩ := H
           replace H : (if t224 = true then ((laws_heldInt64S.f kj22 t213 1).bind fun t225 => (if t225 < 0 then (none) else (if t225 = t212 then (some true) else (none)))) else (none)) = some r := H
           have A53 := Aside0.mk A530
           clear A530
           by_cases c54 : t224 = true
           ·subst c54
            have H1 : ((laws_heldInt64S.f kj22 t213 1).bind fun t225 => (if t225 < 0 then (none) else (if t225 = t212 then (some true) else (none)))) = some r := by rw [if_pos rfl] at H; exact H
            clear H
            have H := H1
            clear H1
            replace H := Option.bind_eq_some_iff.mp H
            obtain ⟨t225, A550, H⟩ := H
            replace H : (if t225 < 0 then (none) else (if t225 = t212 then (some true) else (none))) = some r := H
            have A55 := Aside0.mk A550
            clear A550
            by_cases c56 : t225 < 0
            ·rw [if_pos c56] at H
             exact absurd H (by simp)
            ·rw [if_neg c56] at H
             have c56b0 : decide (t225 < 0) = false := decide_eq_false c56
             clear c56
             by_cases c57 : t225 = t212
             ·rw [if_pos c57] at H
              have c57b0 : (t225 == t212) = true := beq_iff_eq.mpr c57
              have c57b1 : (t225 != t212) = false := bne_eq_false_iff_eq.mpr c57
              clear c57
              obtain rfl := Option.some.inj H
              go_wp2_with (first | ((with_reducible refine gate_callee (f := 15) rfl ?_); refine goesL_ (some 68) rfl rfl Try.func15 (by kernel_rfl) rfl #[.slice Ao34 t195.length co34, .int .i64 1] rfl (by (try simp only [List.map_toArray, List.map_cons, List.map_nil]); first | done | rfl | (simp only [List.length_drop, List.length_take]; rfl)) ?_; (with_reducible refine (laws_markInt64S.calls kj22 (fun k_ => some k_ = (.slice Ao34 t195.length co34 : Value).ownBlock) (.slice Ao34 t195.length co34) t195 1 t212 t213 w _ ?side1 ?side2 A46.out).mono ?_); (case side1 => repeat (first | (with_reducible first | exact HB.out | apply below_alloc | apply pw_below_drewN | apply below_drew1) | exact HB.out)); (case side2 => exact Kd.R_tight rfl HO_11.out); rintro e w58 ⟨rfl, hy0, hb, hkp⟩; refine ⟨_, rfl, ?_⟩; have n0_ := Aside0.mk (Kd.R_mono (ok' := fun k_ => some k_ ≠ (.slice Ao34 t195.length co34 : Value).ownBlock) (Kd.R_keptB (HO_8.out) hkp (fun k_ hk_ hs_ => (hk_) hs_)) (fun k_ hk_ => hk_.1)); have n1_ := Aside0.mk (Kd.R_reok rfl hy0 (fun k_ e_ => HO_11.out.1 k_ e_)); have n2_ := Aside0.mk (hb); clear HO_8; clear HO_11; clear HB; have HO_8 := n0_; have HO_11 := n1_; have HB := n2_; clear n0_ n1_ n2_; (try clear hb); (try clear hkp); (try clear hy0)) | ((with_reducible refine gate_callee (f := 16) rfl ?_); refine goesL_ (some 71) rfl rfl Try.func16 (by kernel_rfl) rfl #[.slice Ao34 t213.length co34, .int .i64 1] rfl (by (try simp only [List.map_toArray, List.map_cons, List.map_nil]); first | done | (rw [show t213.length = t195.length from (Kd.R_reads' HO_11.out).1.symm] <;> rfl) | rfl | (simp only [List.length_drop, List.length_take]; rfl)) ?_; (with_reducible refine (laws_heldInt64S.calls kj22 _ _ t213 1 t214 _ ?side1 ?side2 A47.out).mono ?_); (case side1 => repeat (first | exact (Kd.R_reads' HO_11.out).2.2 | (with_reducible refine Kd.C_alloc ?_ _) | (with_reducible refine Kd.C_drewN ?_ _) | (with_reducible refine Kd.C_drew ?_))); (case side2 => rw [show t213.length = t195.length from (Kd.R_reads' HO_11.out).1.symm]; exact (Kd.R_reads' HO_11.out).2.1); rintro e w' ⟨rfl, ⟨nd, rfl⟩⟩; refine ⟨_, rfl, ?_⟩) | ((with_reducible refine gate_callee (f := 9) rfl ?_); refine goesL_ (some 79) rfl rfl Try.func9 (by kernel_rfl) rfl #[.slice A1 l1.length c1] rfl (by (try simp only [List.map_toArray, List.map_cons, List.map_nil]); first | done | rfl | (simp only [List.length_drop, List.length_take]; rfl)) ?_; (with_reducible refine (laws_toGcOpS.calls kj22 _ _ l1 t215 _ ?side1 ?side2 A50.out).mono ?_); (case side1 => repeat (first | exact (Kd.C_below HR1.out (by repeat (first | (with_reducible first | exact HB.out | apply below_alloc | apply pw_below_drewN | apply below_drew1) | exact HB.out))) | (with_reducible refine Kd.C_alloc ?_ _) | (with_reducible refine Kd.C_drewN ?_ _) | (with_reducible refine Kd.C_drew ?_))); (case side2 => exact HC1.out); rintro e w59 ⟨v216, rfl, ho0, hb⟩; refine ⟨_, rfl, ?_⟩; have n0_ := Aside0.mk (Kd.R_below (by (with_reducible repeat (first | apply Kd.R_alloc | apply Kd.R_drewN | apply Kd.R_drew)); exact HO_8.out) hb); have n1_ := Aside0.mk (Kd.R_below (by (with_reducible repeat (first | apply Kd.R_alloc | apply Kd.R_drewN | apply Kd.R_drew)); exact HO_11.out) hb); have n2_ := Aside0.mk (Kd.R_lower ho0 (below_size (by repeat (first | (with_reducible first | exact HB.out | apply below_alloc | apply pw_below_drewN | apply below_drew1) | exact HB.out)))); have n3_ := Aside0.mk (below_step (by repeat (first | (with_reducible first | exact HB.out | apply below_alloc | apply pw_below_drewN | apply below_drew1) | exact HB.out)) hb); clear HO_8; clear HO_11; clear HB; have HO_8 := n0_; have HO_11 := n1_; have HO217 := n2_; have HB := n3_; clear n0_ n1_ n2_ n3_; (try clear hb); (try clear hb2); (try clear hk); (try clear hi); (try clear ho0)) | ((with_reducible refine gate_callee (f := 10) rfl ?_); refine goesL_ (some 81) rfl rfl Try.func10 (by kernel_rfl) rfl #[.slice A2 l2.length c2] rfl (by (try simp only [List.map_toArray, List.map_cons, List.map_nil]); first | done | rfl | (simp only [List.length_drop, List.length_take]; rfl)) ?_; (with_reducible refine (laws_toInt64S.calls kj22 _ _ l2 t218 _ ?side1 ?side2 A51.out).mono ?_); (case side1 => repeat (first | exact (Kd.C_below HR2.out HB.out) | (with_reducible refine Kd.C_alloc ?_ _) | (with_reducible refine Kd.C_drewN ?_ _) | (with_reducible refine Kd.C_drew ?_))); (case side2 => exact HC2.out); rintro e w60 ⟨v219, rfl, ho0, hb⟩; refine ⟨_, rfl, ?_⟩; have n0_ := Aside0.mk (Kd.R_elder' (by (with_reducible repeat (first | apply Kd.R_alloc | apply Kd.R_drewN | apply Kd.R_drew)); exact HO_8.out) (Kd.R_base ho0) hb); have n1_ := Aside0.mk (Kd.R_elder' (by (with_reducible repeat (first | apply Kd.R_alloc | apply Kd.R_drewN | apply Kd.R_drew)); exact HO_11.out) (Kd.R_base ho0) hb); have n2_ := Aside0.mk (Kd.R_below (by (with_reducible repeat (first | apply Kd.R_alloc | apply Kd.R_drewN | apply Kd.R_drew)); exact HO217.out) hb); have n3_ := Aside0.mk (Kd.R_lower (Kd.R_new' (Kd.R_new' ho0 (Kd.R_lt (by (with_reducible repeat (first | apply Kd.R_alloc | apply Kd.R_drewN | apply Kd.R_drew)); exact HO_8.out))) (Kd.R_lt (by (with_reducible repeat (first | apply Kd.R_alloc | apply Kd.R_drewN | apply Kd.R_drew)); exact HO_11.out))) (below_size (by repeat (first | (with_reducible first | exact HB.out | apply below_alloc | apply pw_below_drewN | apply below_drew1) | exact HB.out)))); have n4_ := Aside0.mk (below_step (by repeat (first | (with_reducible first | exact HB.out | apply below_alloc | apply pw_below_drewN | apply below_drew1) | exact HB.out)) hb); clear HO_8; clear HO_11; clear HO217; clear HB; have HO_8 := n0_; have HO_11 := n1_; have HO217 := n2_; have HO220 := n3_; have HB := n4_; clear n0_ n1_ n2_ n3_ n4_; (try clear hb); (try clear hb2); (try clear hk); (try clear hi); (try clear ho0); obtain ⟨Ao61, co61, eo61⟩ := Kd.R_slice HO217.out; subst eo61; obtain ⟨Ao62, co62, eo62⟩ := Kd.R_slice HO220.out; subst eo62) | ((with_reducible refine gate_callee (f := 11) rfl ?_); refine goesL_ (some 82) rfl rfl Try.func11 (by kernel_rfl) rfl #[.int .i64 a0, .slice Ao61 t215.length co61, .slice Ao62 t218.length co62] rfl (by (try simp only [List.map_toArray, List.map_cons, List.map_nil]); first | done | rfl | (simp only [List.length_drop, List.length_take]; rfl)) ?_; (with_reducible refine (impl_GcReach.calls a0 _ _ t215 _ _ t218 t221 _ ?side1 ?side2 ?side3 ?side4 A52.out).mono ?_); (case side1 => repeat (first | exact (Kd.R_reads' HO217.out).2.2 | (with_reducible refine Kd.C_alloc ?_ _) | (with_reducible refine Kd.C_drewN ?_ _) | (with_reducible refine Kd.C_drew ?_))); (case side2 => exact (Kd.R_reads' HO217.out).2.1); (case side3 => repeat (first | exact (Kd.R_reads' HO220.out).2.2 | (with_reducible refine Kd.C_alloc ?_ _) | (with_reducible refine Kd.C_drewN ?_ _) | (with_reducible refine Kd.C_drew ?_))); (case side4 => exact (Kd.R_reads' HO220.out).2.1); rintro e w63 ⟨v222, rfl, ho0, hb⟩; refine ⟨_, rfl, ?_⟩; have n0_ := Aside0.mk (Kd.R_elder' (by (with_reducible repeat (first | apply Kd.R_alloc | apply Kd.R_drewN | apply Kd.R_drew)); exact HO_8.out) (Kd.R_base ho0) hb); have n1_ := Aside0.mk (Kd.R_elder' (by (with_reducible repeat (first | apply Kd.R_alloc | apply Kd.R_drewN | apply Kd.R_drew)); exact HO_11.out) (Kd.R_base ho0) hb); have n2_ := Aside0.mk (Kd.R_below (by (with_reducible repeat (first | apply Kd.R_alloc | apply Kd.R_drewN | apply Kd.R_drew)); exact HO217.out) hb); have n3_ := Aside0.mk (Kd.R_elder' (by (with_reducible repeat (first | apply Kd.R_alloc | apply Kd.R_drewN | apply Kd.R_drew)); exact HO220.out) (Kd.R_base ho0) hb); have n4_ := Aside0.mk (Kd.R_lower (Kd.R_new' (Kd.R_new' (Kd.R_new' ho0 (Kd.R_lt (by (with_reducible repeat (first | apply Kd.R_alloc | apply Kd.R_drewN | apply Kd.R_drew)); exact HO_8.out))) (Kd.R_lt (by (with_reducible repeat (first | apply Kd.R_alloc | apply Kd.R_drewN | apply Kd.R_drew)); exact HO_11.out))) (Kd.R_lt (by (with_reducible repeat (first | apply Kd.R_alloc | apply Kd.R_drewN | apply Kd.R_drew)); exact HO220.out))) (below_size (by repeat (first | (with_reducible first | exact HB.out | apply below_alloc | apply pw_below_drewN | apply below_drew1) | exact HB.out)))); have n5_ := Aside0.mk (below_step (by repeat (first | (with_reducible first | exact HB.out | apply below_alloc | apply pw_below_drewN | apply below_drew1) | exact HB.out)) hb); clear HO_8; clear HO_11; clear HO217; clear HO220; clear HB; have HO_8 := n0_; have HO_11 := n1_; have HO217 := n2_; have HO220 := n3_; have HO223 := n4_; have HB := n5_; clear n0_ n1_ n2_ n3_ n4_ n5_; (try clear hb); (try clear hb2); (try clear hk); (try clear hi); (try clear ho0); obtain ⟨Ao64, co64, eo64⟩ := Kd.R_slice HO223.out; subst eo64) | ((with_reducible refine gate_callee (f := 12) rfl ?_); refine goesL_ (some 85) rfl rfl Try.func12 (by kernel_rfl) rfl #[.slice Ao64 t221.length co64, .slice Ao35 t186.length co35] rfl (by (try simp only [List.map_toArray, List.map_cons, List.map_nil]); first | done | rfl | (simp only [List.length_drop, List.length_take]; rfl)) ?_; (with_reducible refine (laws_eqInt64S.calls kj22 _ _ t221 _ _ t186 true _ ?side1 ?side2 ?side3 ?side4 A53.out).mono ?_); (case side1 => repeat (first | exact (Kd.R_reads' HO223.out).2.2 | (with_reducible refine Kd.C_alloc ?_ _) | (with_reducible refine Kd.C_drewN ?_ _) | (with_reducible refine Kd.C_drew ?_))); (case side2 => exact (Kd.R_reads' HO223.out).2.1); (case side3 => repeat (first | exact (Kd.R_reads' HO_8.out).2.2 | (with_reducible refine Kd.C_alloc ?_ _) | (with_reducible refine Kd.C_drewN ?_ _) | (with_reducible refine Kd.C_drew ?_))); (case side4 => exact (Kd.R_reads' HO_8.out).2.1); rintro e w' ⟨rfl, ⟨nd, rfl⟩⟩; refine ⟨_, rfl, ?_⟩) | ((with_reducible refine gate_callee (f := 16) rfl ?_); refine goesL_ (some 89) rfl rfl Try.func16 (by kernel_rfl) rfl #[.slice Ao34 t213.length co34, .int .i64 1] rfl (by (try simp only [List.map_toArray, List.map_cons, List.map_nil]); first | done | (rw [show t213.length = t195.length from (Kd.R_reads' HO_11.out).1.symm] <;> rfl) | rfl | (simp only [List.length_drop, List.length_take]; rfl)) ?_; (with_reducible refine (laws_heldInt64S.calls kj22 _ _ t213 1 t225 _ ?side1 ?side2 A55.out).mono ?_); (case side1 => repeat (first | exact (Kd.R_reads' HO_11.out).2.2 | (with_reducible refine Kd.C_alloc ?_ _) | (with_reducible refine Kd.C_drewN ?_ _) | (with_reducible refine Kd.C_drew ?_))); (case side2 => rw [show t213.length = t195.length from (Kd.R_reads' HO_11.out).1.symm]; exact (Kd.R_reads' HO_11.out).2.1); rintro e w' ⟨rfl, ⟨nd, rfl⟩⟩; refine ⟨_, rfl, ?_⟩))
              go_ret
              exact ⟨by first | rfl | (simp [errW_none, errW_some] <;> rfl) | (simp [*, errW_none, errW_some] <;> rfl), by repeat (first | (with_reducible first | exact HB.out | apply below_alloc | apply pw_below_drewN | apply below_drew1) | exact HB.out)⟩
             ·rw [if_neg c57] at H
              exact absurd H (by simp)
           ·replace c54 := Bool.eq_false_iff.mpr c54
            subst c54
            have H1 : (none) = some r := by rw [if_neg (show ¬ (false = true) by decide)] at H; exact H
            clear H
            have H := H1
            clear H1
            exact absurd H (by simp)
          ·rw [if_neg c49] at H
           exact absurd H (by simp)
     ·replace c20 := Bool.eq_false_iff.mpr c20
      subst c20
      have H1 : (none) = some r := by rw [if_neg (show ¬ (false = true) by decide)] at H; exact H
      clear H
      have H := H1
      clear H1
      exact absurd H (by simp)
    ·replace c17 := Bool.eq_false_iff.mpr c17
     subst c17
     have H1 : (none) = some r := by rw [if_neg (show ¬ (false = true) by decide)] at H; exact H
     clear H
     have H := H1
     clear H1
     exact absurd H (by simp)
   ·replace c14 := Bool.eq_false_iff.mpr c14
    subst c14
    have H1 : (none) = some r := by rw [if_neg (show ¬ (false = true) by decide)] at H; exact H
    clear H
    have H := H1
    clear H1
    exact absurd H (by simp)

end Go.Proofs.Ythpdhahjpjhfiaa.PR
