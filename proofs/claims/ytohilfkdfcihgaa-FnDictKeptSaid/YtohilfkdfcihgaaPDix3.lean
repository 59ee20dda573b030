/- Go functions as Lean functions, and that each Go function comes to just that; printed by a program of this session (gprint.py over the kit's print.py). No condition. -/
import Derived.Test.YtohilfkdfcihgaaPDix0
import Derived.Test.YtohilfkdfcihgaaPDix2
namespace Go.Proofs.Ytohilfkdfcihgaa.PDi
open Go.RowKit Go.Proofs.YtohilfkdfcihgaaW.PrintWords Go.Proofs.YtohilfkdfcihgaaW.PrintLast Go.Proofs.YtohilfkdfcihgaaW.PrintMore
attribute [local go_sem] max2_int min2_int max_two min_two max_three min_three max_four min_four   -- for this text's walks alone
set_option linter.unusedVariables false
set_option linter.unusedSimpArgs false
theorem rdi3_1 {P Q0 : Prop} (y0 : Q0) (h : Q0 → P := by intro y0_; repeat (first | (with_reducible first | exact y0_.out | apply below_alloc | apply pw_below_drewN | apply below_drew1) | exact y0_.out)) : P := h y0
theorem rdi3_2 {P Q0 : Prop} (y0 : Q0) (h : Q0 → P := by intro y0_; (with_reducible repeat (first | apply Kd.R_alloc | apply Kd.R_drewN | apply Kd.R_drew)); exact y0_.out) : P := h y0
theorem q3_1 {P : Prop} (h : P := by first | (with_reducible assumption) | assumption) : P := h
theorem q3_2 {P : Prop} (h : P := by first | rfl | (simp; done) | (simp [*]; done)) : P := h
mutual
def spec_l7Table.l0 : Nat → List (S62) → Int → List Int → Int → Option (List Int)
 | 0, _, _, _, _ => none
 | k + 1, x0, x1, x5, x6 => if x6 < x1 then (if 0 ≤ x6 then (if x6 < (x5.length : Int) then (spec_l7Table.l0 k x0 x1 (x5.set (x6 : Int).toNat (-1)) (wrap64 (x6 + 1))) else (none)) else (none)) else (spec_l7Table.l1 k x0 x1 x5 0)
def spec_l7Table.l1 : Nat → List (S62) → Int → List Int → Int → Option (List Int)
 | 0, _, _, _, _ => none
 | k + 1, x0, x1, x5, x7 => if x7 < (x0.length : Int) then (if 0 ≤ x7 then (if (IntKind.u64.wrap (x1)) = 0 then (none) else (spec_l7Table.l2 k x0 x1 x5 x7 (Int.tmod ((rd_T62 x0 x7).f0) (IntKind.u64.wrap (x1))) 1)) else (none)) else (some x5)
def spec_l7Table.l2 : Nat → List (S62) → Int → List Int → Int → Int → Int → Option (List Int)
 | 0, _, _, _, _, _, _ => none
 | k + 1, x0, x1, x5, x7, x8, x9 => if 0 ≤ x8 then (if x8 < (x5.length : Int) then (if (rd x5 x8) ≥ 0 then (if 0 ≤ x7 then (if x7 < (x0.length : Int) then ((spec_l7Next.f x8 ((rd_T62 x0 x7).f0) x9 (IntKind.u64.wrap (x1))).bind fun t156 => (spec_l7Table.l2 k x0 x1 x5 x7 t156 (wrap64 (x9 + 1)))) else (none)) else (none)) else (spec_l7Table.l1 k x0 x1 (x5.set (x8 : Int).toNat x7) (wrap64 (x7 + 1)))) else (none)) else (none)
end
def spec_l7Table.f (k : Nat) (l0 : List (S62)) (a1 : Int) : Option (List Int) := if 0 ≤ a1 then (if (a1 : Int).toNat ≤ 35184372088832 then (spec_l7Table.l0 k l0 a1 (List.replicate (a1 : Int).toNat 0) 0) else (none)) else (none)
set_option maxHeartbeats 8000000 in
set_option maxRecDepth 100000 in
theorem spec_l7Table.calls (k : Nat) (A0 : Option Addr) (c0 : Nat) (l0 : List (S62)) (a1 : Int) (r : List Int) (w : World) (hr0 : Kd.C k62 w A0 l0.length l0) (hc0 : l0.length ≤ c0) (h : spec_l7Table.f k l0 a1 = some r) :
  Calls Try.prog 39 #[.slice A0 l0.length c0, .int .i64 a1] w fun e w' => ∃ v0_ : Value, e = .returned (v0_) ∧ Kd.R (Kd.int .i64) 2 w' w.heap.size (fun _ => True) v0_ r ∧ Below w.heap.size w w' := by
 have HR0 := Aside0.mk hr0
 have HC0 := Aside0.mk hc0
 clear hr0 hc0
 have HB := Aside0.mk (Below.refl w.heap.size w)
 have H : (if 0 ≤ a1 then (if (a1 : Int).toNat ≤ 35184372088832 then (spec_l7Table.l0 k l0 a1 (List.replicate (a1 : Int).toNat 0) 0) else (none)) else (none)) = some r := h
 clear h
 by_cases c3 : 0 ≤ a1
 ·rw [if_pos c3] at H
  have c3b0 := eq_true c3
  have c3b1 : decide (0 ≤ a1) = true := decide_eq_true c3
  clear c3
  by_cases c4 : (a1 : Int).toNat ≤ 35184372088832
  ·rw [if_pos c4] at H
   have c4b0 := eq_true c4
   have c4b1 : decide ((a1 : Int).toNat ≤ 35184372088832) = true := decide_eq_true c4
   clear c4
   obtain ⟨y149, hy149⟩ : ∃ y_ : List Int, y_ = (List.replicate (a1 : Int).toNat 0) := ⟨_, rfl⟩
   replace H : (spec_l7Table.l0 k l0 a1 y149 0) = some r := by first | (rw [hy149]; with_reducible exact H) | (have H2_ := (Option.bind_some _ _).symm.trans H; rw [hy149]; with_reducible exact H2_) | (have H2_ := (Option.bind_some _ _).symm.trans H; with_reducible exact H2_) | with_reducible exact H | (rw [hy149]; exact H) | exact H
   have Ny149 := Aside0.mk hy149
   clear hy149
   have H' := Aside0.mk H
   clear H
   go_enter Try.func39, Try.ntmps39
   go_wp2_with (first | ((with_reducible refine gate_dst (N := 11) rfl ?_); refine Kd.R_make (Kd.int .i64) _ 2 rfl (N := 11) rfl 22 _ _ rfl a1 rfl rfl Try.underlying22 (.int .i64 0) 8 info2 rfl (by decide) (by omega) 0 (ok := fun _ => True) (okp := fun _ => True) rfl (fun _ hk => hk) trivial (of_decide_eq_true q3_1) (Nat.le_trans (Nat.mul_le_mul_right _ (of_decide_eq_true q3_1 : a1.toNat ≤ 35184372088832)) (by omega)) (Below.refl _ _) (Nat.le_refl _) ?_; intro v150 w5 ho6 hb hg_ hnew_; clear hg_ hnew_; (first | rw [← Ny149.out] at ho6 | (simp only [Int.reduceToNat] at ho6; rw [← Ny149.out] at ho6)); have n0_ := Aside0.mk (Kd.R_lower ho6 (below_size (rdi3_1 HB))); have n1_ := Aside0.mk (below_step (rdi3_1 HB) hb); clear HB; have HO151 := n0_; have HB := n1_; clear n0_ n1_; clear hb ho6))
   go_loopg [6] k (fun kq v6 w' => ∃ (x5_1 : List Int) (x6_1 : Int), v6 = .int .i64 x6_1 ∧ Aside0 (spec_l7Table.l0 kq l0 a1 x5_1 x6_1 = some r) ∧ Aside0 (kq ≤ k) ∧ Aside0 (Kd.R (Kd.int .i64) 2 w' w.heap.size (fun _ => True) v150 x5_1) ∧ Aside0 (Below w.heap.size w w'))
   case atStart => exact ⟨(y149), (0), q3_2, H', ⟨Nat.le_refl _⟩, ⟨(rdi3_2 HO151)⟩, ⟨(rdi3_1 HB)⟩⟩
   case round =>
    clear H'
    obtain ⟨x5_1, x6_1, rfl, HA, HK1, HO_5, HB⟩ := hrel
    cases gk with
    | zero => exact absurd HA.out (by simp [spec_l7Table.l0])
    | succ k1 =>
     have H := HA.out
     clear HA
     simp only [spec_l7Table.l0] at H
     by_cases c7 : x6_1 < a1
     ·rw [if_pos c7] at H
      have c7b0 : decide (x6_1 < a1) = true := decide_eq_true c7
      clear c7
      by_cases c8 : 0 ≤ x6_1
      ·rw [if_pos c8] at H
       have c8b0 : decide (0 ≤ x6_1) = true := decide_eq_true c8
       clear c8
       by_cases c9 : x6_1 < (x5_1.length : Int)
       ·rw [if_pos c9] at H
        have c9b0 : decide (x6_1 < (x5_1.length : Int)) = true := decide_eq_true c9
        clear c9
        obtain ⟨y152, hy152⟩ : ∃ y_ : List Int, y_ = (x5_1.set (x6_1 : Int).toNat (-1)) := ⟨_, rfl⟩
        replace H : (spec_l7Table.l0 k1 l0 a1 y152 (wrap64 (x6_1 + 1))) = some r := by first | (rw [hy152]; with_reducible exact H) | (have H2_ := (Option.bind_some _ _).symm.trans H; rw [hy152]; with_reducible exact H2_) | (have H2_ := (Option.bind_some _ _).symm.trans H; with_reducible exact H2_) | with_reducible exact H | (rw [hy152]; exact H) | exact H
        have Ny152 := Aside0.mk hy152
        clear hy152
        have H' := Aside0.mk H
        clear H
        have p10 : 0 ≤ (x6_1 : Int) := of_decide_eq_true q3_1
        have q10 : (x6_1 : Int) < ((x5_1.length : Int) : Int) := of_decide_eq_true q3_1
        obtain ⟨go10, co10, eo10, gb10, gl10, cl10, HG10⟩ := Kd.R_form HO_5.out (by omega)
        (first | cases eo10 | (injection eo10 with ea_ en_ ec_; (first | subst ea_ | (injection ea_ with ea_; subst ea_)); subst ec_; clear en_))
        have GB10 := Aside0.mk gb10
        have GG10 := Aside0.mk HG10
        clear gb10 gl10 HG10
        obtain ⟨hx10_0, hf10_0⟩ := Kd.R_celln 0 HO_5.out (x6_1 : Int) p10 q10
        replace p10 := eq_true p10
        replace q10 := eq_true q10
        have HP11 := Kd.R_putg HO_5.out (x6_1 : Int) (-1)
        go_wp2_with (first | ((with_reducible refine gate_store (t := 2) (p := 19) rfl ?_); refine store_event (t := 2) (p := 19) (v := ?vo_w12) (w1 := (wr.setCell ⟨go10, (x6_1 : Int).toNat, none⟩ (.int .i64 (-1)))) ?hg ?ho ?hn ?hr ?_; (case ho => rfl); (case hg => rfl); (case hn => rfl); (case hr => exact (by first | (go_simp; done) | (go_simp; rfl))); intro w12 hw; have hg : wr.grownBy w12 (some go10) := (by rw [hw]; exact HP11.2); have hp_ : Kd.R (Kd.int .i64) 2 w12 w.heap.size (fun _ => True) (.slice (some ⟨go10, 0, none⟩) x5_1.length co10) y152 := (by rw [hw, Ny152.out]; exact HP11.1); clear HP11; have n0_ := Aside0.mk (hp_); have n1_ := Aside0.mk ((by rw [hw]; exact below_set (HB.out) GB10.out : Below w.heap.size w w12)); clear HO_5 HB; have HO_5 := n0_; have HB := n1_; clear n0_ n1_; clear hg hw hp_))
        go_roundg k1
        case measure => have := HK1.out; omega
        case rel => exact ⟨(y152), (wrap64 (x6_1 + 1)), q3_2, H', ⟨(by have := HK1.out; omega)⟩, ⟨(rdi3_2 HO_5)⟩, ⟨(rdi3_1 HB)⟩⟩
       rw [if_neg c9] at H
       exact absurd H (by simp)
      rw [if_neg c8] at H
      exact absurd H (by simp)
     rw [if_neg c7] at H
     have c7b0 : decide (x6_1 < a1) = false := decide_eq_false c7
     clear c7
     have H' := Aside0.mk H
     clear H
     go_wp2
     go_loopg [7] k1 (fun kq v7 w' => ∃ (x5_2 : List Int) (x7_2 : Int), v7 = .int .i64 x7_2 ∧ Aside0 (spec_l7Table.l1 kq l0 a1 x5_2 x7_2 = some r) ∧ Aside0 (kq ≤ k1) ∧ Aside0 (Kd.R (Kd.int .i64) 2 w' w.heap.size (fun _ => True) v150 x5_2) ∧ Aside0 (Below w.heap.size w w'))
     case atStart => exact ⟨(x5_1), (0), q3_2, H', ⟨Nat.le_refl _⟩, ⟨(rdi3_2 HO_5)⟩, ⟨(rdi3_1 HB)⟩⟩
     case round =>
      clear H'
      obtain ⟨x5_2, x7_2, rfl, HA, HK2, HO_5, HB⟩ := hrel
      cases gk with
      | zero => exact absurd HA.out (by simp [spec_l7Table.l1])
      | succ k2 =>
       have H := HA.out
       clear HA
       simp only [spec_l7Table.l1] at H
       by_cases c13 : x7_2 < (l0.length : Int)
       ·rw [if_pos c13] at H
        have c13b0 : decide (x7_2 < (l0.length : Int)) = true := decide_eq_true c13
        clear c13
        by_cases c14 : 0 ≤ x7_2
        ·rw [if_pos c14] at H
         have c14b0 : decide (0 ≤ x7_2) = true := decide_eq_true c14
         clear c14
         by_cases c15 : (IntKind.u64.wrap (a1)) = 0
         ·rw [if_pos c15] at H
          exact absurd H (by simp)
         rw [if_neg c15] at H
         have c15b0 : ((IntKind.u64.wrap (a1)) == 0) = false := beq_eq_false_iff_ne.mpr c15
         have c15b1 : ((IntKind.u64.wrap (a1)) != 0) = true := bne_iff_ne.mpr c15
         have H' := Aside0.mk H
         clear H
         have p153 : 0 ≤ (x7_2 : Int) := of_decide_eq_true q3_1
         have q153 : x7_2 < (l0.length : Int) := of_decide_eq_true q3_1
         obtain ⟨ad153, e153, hx153_0, hx153_1, hx153_2, hx153_3⟩ := at_T62 HR0.out x7_2 p153 q153
         cases e153
         replace hx153_0 := (HB.out.cell (World.block_lt_of_cell? w _ hx153_0)).trans hx153_0
         replace hx153_1 := (HB.out.cell (World.block_lt_of_cell? w _ hx153_1)).trans hx153_1
         replace hx153_2 := (HB.out.cell (World.block_lt_of_cell? w _ hx153_2)).trans hx153_2
         replace hx153_3 := (HB.out.cell (World.block_lt_of_cell? w _ hx153_3)).trans hx153_3
         replace p153 := eq_true p153
         replace q153 := eq_true q153
         go_wp2
         go_loopg [8, 9] k2 (fun kq v8 v9 w' => ∃ (x8_3 : Int) (x9_3 : Int), v8 = .int .u64 x8_3 ∧ v9 = .int .i64 x9_3 ∧ Aside0 (spec_l7Table.l2 kq l0 a1 x5_2 x7_2 x8_3 x9_3 = some r) ∧ Aside0 (kq ≤ k2) ∧ Aside0 (Kd.R (Kd.int .i64) 2 w' w.heap.size (fun _ => True) v150 x5_2) ∧ Aside0 (Below w.heap.size w w'))
         case atStart => exact ⟨(Int.tmod ((rd_T62 l0 x7_2).f0) (IntKind.u64.wrap (a1))), (1), q3_2, q3_2, H', ⟨Nat.le_refl _⟩, ⟨(rdi3_2 HO_5)⟩, ⟨(rdi3_1 HB)⟩⟩
         case round =>
          clear H'
          obtain ⟨x8_3, x9_3, rfl, rfl, HA, HK3, HO_5, HB⟩ := hrel
          cases gk with
          | zero => exact absurd HA.out (by simp [spec_l7Table.l2])
          | succ k3 =>
           have H := HA.out
           clear HA
           simp only [spec_l7Table.l2] at H
           by_cases c16 : 0 ≤ x8_3
           ·rw [if_pos c16] at H
            have c16b0 : decide (0 ≤ x8_3) = true := decide_eq_true c16
            clear c16
            by_cases c17 : x8_3 < (x5_2.length : Int)
            ·rw [if_pos c17] at H
             have c17b0 : decide (x8_3 < (x5_2.length : Int)) = true := decide_eq_true c17
             clear c17
             by_cases c18 : (rd x5_2 x8_3) ≥ 0
             ·rw [if_pos c18] at H
              have c18b0 : decide (0 ≤ (rd x5_2 x8_3)) = true := decide_eq_true c18
              clear c18
              by_cases c19 : 0 ≤ x7_2
              ·rw [if_pos c19] at H
               have c19b0 : decide (0 ≤ x7_2) = true := decide_eq_true c19
               clear c19
               by_cases c20 : x7_2 < (l0.length : Int)
               ·rw [if_pos c20] at H
                have c20b0 : decide (x7_2 < (l0.length : Int)) = true := decide_eq_true c20
                clear c20
                replace H := Option.bind_eq_some_iff.mp H
                obtain ⟨t156, A210, H⟩ := H
                replace H : (spec_l7Table.l2 k3 l0 a1 x5_2 x7_2 t156 (wrap64 (x9_3 + 1))) = some r := H
                have A21 := Aside0.mk A210
                clear A210
                have H' := Aside0.mk H
                clear H
                obtain ⟨Ao22, co22, eo22⟩ := Kd.R_slice HO_5.out
                subst eo22
                have p154 : 0 ≤ (x8_3 : Int) := of_decide_eq_true q3_1
                have q154 : x8_3 < (x5_2.length : Int) := of_decide_eq_true q3_1
                obtain ⟨ad154, e154, hx154_0⟩ := Kd.at_int (Kd.R_reads' HO_5.out).2.2 x8_3 p154 q154
                cases e154
                replace p154 := eq_true p154
                replace q154 := eq_true q154
                have p155 : 0 ≤ (x7_2 : Int) := of_decide_eq_true q3_1
                have q155 : x7_2 < (l0.length : Int) := of_decide_eq_true q3_1
                obtain ⟨ad155, e155, hx155_0, hx155_1, hx155_2, hx155_3⟩ := at_T62 HR0.out x7_2 p155 q155
                obtain rfl : ad153 = ad155 := (by injection e155)
                replace hx155_0 := (HB.out.cell (World.block_lt_of_cell? w _ hx155_0)).trans hx155_0
                replace hx155_1 := (HB.out.cell (World.block_lt_of_cell? w _ hx155_1)).trans hx155_1
                replace hx155_2 := (HB.out.cell (World.block_lt_of_cell? w _ hx155_2)).trans hx155_2
                replace hx155_3 := (HB.out.cell (World.block_lt_of_cell? w _ hx155_3)).trans hx155_3
                replace p155 := eq_true p155
                replace q155 := eq_true q155
                go_wp2_with (first | ((with_reducible refine gate_callee (f := 66) rfl ?_); refine goesL_ (some 50) rfl rfl Try.func66 (by kernel_rfl) rfl #[.int .u64 x8_3, .int .u64 ((rd_T62 l0 x7_2).f0), .int .i64 x9_3, .int .u64 (IntKind.u64.wrap (a1))] rfl (by (try simp only [List.map_toArray, List.map_cons, List.map_nil]); first | done | rfl | (simp only [List.length_drop, List.length_take]; rfl)) ?_; (with_reducible refine (spec_l7Next.calls x8_3 ((rd_T62 l0 x7_2).f0) x9_3 (IntKind.u64.wrap (a1)) t156 _ A21.out).mono ?_); rintro e w' ⟨rfl, ⟨nd, rfl⟩⟩; refine ⟨_, rfl, ?_⟩))
                go_roundg k3
                case measure => have := HK1.out; have := HK2.out; have := HK3.out; omega
                case rel => exact ⟨(t156), (wrap64 (x9_3 + 1)), q3_2, q3_2, H', ⟨(by have := HK1.out; have := HK2.out; have := HK3.out; omega)⟩, ⟨(rdi3_2 HO_5)⟩, ⟨(rdi3_1 HB)⟩⟩
               rw [if_neg c20] at H
               exact absurd H (by simp)
              rw [if_neg c19] at H
              exact absurd H (by simp)
             rw [if_neg c18] at H
             have c18b0 : decide (0 ≤ (rd x5_2 x8_3)) = false := decide_eq_false c18
             clear c18
             obtain ⟨y157, hy157⟩ : ∃ y_ : List Int, y_ = (x5_2.set (x8_3 : Int).toNat x7_2) := ⟨_, rfl⟩
             replace H : (spec_l7Table.l1 k3 l0 a1 y157 (wrap64 (x7_2 + 1))) = some r := by first | (rw [hy157]; with_reducible exact H) | (have H2_ := (Option.bind_some _ _).symm.trans H; rw [hy157]; with_reducible exact H2_) | (have H2_ := (Option.bind_some _ _).symm.trans H; with_reducible exact H2_) | with_reducible exact H | (rw [hy157]; exact H) | exact H
             have Ny157 := Aside0.mk hy157
             clear hy157
             have H' := Aside0.mk H
             clear H
             obtain ⟨Ao24, co24, eo24⟩ := Kd.R_slice HO_5.out
             subst eo24
             have p154 : 0 ≤ (x8_3 : Int) := of_decide_eq_true q3_1
             have q154 : x8_3 < (x5_2.length : Int) := of_decide_eq_true q3_1
             obtain ⟨ad154, e154, hx154_0⟩ := Kd.at_int (Kd.R_reads' HO_5.out).2.2 x8_3 p154 q154
             cases e154
             replace p154 := eq_true p154
             replace q154 := eq_true q154
             have p23 : 0 ≤ (x8_3 : Int) := of_decide_eq_true q3_1
             have q23 : (x8_3 : Int) < ((x5_2.length : Int) : Int) := of_decide_eq_true q3_1
             obtain ⟨go23, co23, eo23, gb23, gl23, cl23, HG23⟩ := Kd.R_form HO_5.out (by omega)
             (first | cases eo23 | (injection eo23 with ea_ en_ ec_; (first | subst ea_ | (injection ea_ with ea_; subst ea_)); subst ec_; clear en_))
             have GB23 := Aside0.mk gb23
             have GG23 := Aside0.mk HG23
             clear gb23 gl23 HG23
             (first | simp only [add_plain] at hx154_0 | skip)
             obtain ⟨hx23_0, hf23_0⟩ := Kd.R_celln 0 HO_5.out (x8_3 : Int) p23 q23
             replace p23 := eq_true p23
             replace q23 := eq_true q23
             have HP25 := Kd.R_putg HO_5.out (x8_3 : Int) x7_2
             go_wp2_with (first | ((with_reducible refine gate_store (t := 2) (p := 54) rfl ?_); refine store_event (t := 2) (p := 54) (v := ?vo_w26) (w1 := (wr.setCell ⟨go23, (x8_3 : Int).toNat, none⟩ (.int .i64 x7_2))) ?hg ?ho ?hn ?hr ?_; (case ho => rfl); (case hg => rfl); (case hn => rfl); (case hr => exact (by first | (go_simp; done) | (go_simp; rfl))); intro w26 hw; have hg : wr.grownBy w26 (some go23) := (by rw [hw]; exact HP25.2); have hp_ : Kd.R (Kd.int .i64) 2 w26 w.heap.size (fun _ => True) (.slice (some ⟨go23, 0, none⟩) x5_2.length co24) y157 := (by rw [hw, Ny157.out]; exact HP25.1); clear HP25; have n0_ := Aside0.mk (hp_); have n1_ := Aside0.mk ((by rw [hw]; exact below_set (HB.out) GB23.out : Below w.heap.size w w26)); clear HO_5 HB; have HO_5 := n0_; have HB := n1_; clear n0_ n1_; clear hg hw hp_))
             go_roundg k3
             case measure => have := HK1.out; have := HK2.out; have := HK3.out; omega
             case rel => exact ⟨(y157), (wrap64 (x7_2 + 1)), q3_2, H', ⟨(by have := HK1.out; have := HK2.out; have := HK3.out; omega)⟩, ⟨(rdi3_2 HO_5)⟩, ⟨(rdi3_1 HB)⟩⟩
            rw [if_neg c17] at H
            exact absurd H (by simp)
           rw [if_neg c16] at H
           exact absurd H (by simp)
        rw [if_neg c14] at H
        exact absurd H (by simp)
       rw [if_neg c13] at H
       have c13b0 : decide (x7_2 < (l0.length : Int)) = false := decide_eq_false c13
       clear c13
       obtain rfl := Option.some.inj H
       go_wp2
       go_ret
       exact ⟨_, (by first | rfl | (simp [errW_none, errW_some] <;> rfl) | (simp [*, errW_none, errW_some] <;> rfl)), (rdi3_2 HO_5), (rdi3_1 HB)⟩
  rw [if_neg c4] at H
  exact absurd H (by simp)
 rw [if_neg c3] at H
 exact absurd H (by simp)
def spec_l7Size.l0 : Nat → Int → Int → Option (Bool)
 | 0, _, _ => none
 | k + 1, x0, x3 => if x3 ≤ 65536 then (if x3 = x0 then (some true) else (spec_l7Size.l0 k x0 (wrap64 (x3 * 2)))) else (some false)
def spec_l7Size.f (k : Nat) (a0 : Int) : Option (Bool) := spec_l7Size.l0 k a0 8
set_option maxHeartbeats 8000000 in
set_option maxRecDepth 100000 in
theorem spec_l7Size.calls (k : Nat) (a0 : Int) (r : Bool) (w : World) (h : spec_l7Size.f k a0 = some r) :
  Calls Try.prog 54 #[.int .i64 a0] w fun e w' => e = .returned (.bool r) ∧ Drawn0 w w' := by
 have H : (spec_l7Size.l0 k a0 8) = some r := h
 clear h
 have H' := Aside0.mk H
 clear H
 go_enter Try.func54, Try.ntmps54
 go_wp2
 go_loopg [3] k (fun kq v3 w' => ∃ (x3_1 : Int), v3 = .int .i64 x3_1 ∧ Aside0 (spec_l7Size.l0 kq a0 x3_1 = some r) ∧ Aside0 (kq ≤ k) ∧ Drawn0 w w')
 case atStart => exact ⟨(8), q3_2, H', ⟨Nat.le_refl _⟩, (by repeat (first | exact Drawn0.refl _ | apply Drawn0.step))⟩
 case round =>
  clear H'
  obtain ⟨x3_1, rfl, HA, HK1, ⟨m1, rfl⟩⟩ := hrel
  cases gk with
  | zero => exact absurd HA.out (by simp [spec_l7Size.l0])
  | succ k1 =>
   have H := HA.out
   clear HA
   simp only [spec_l7Size.l0] at H
   by_cases c2 : x3_1 ≤ 65536
   ·rw [if_pos c2] at H
    have c2b0 : decide (x3_1 ≤ 65536) = true := decide_eq_true c2
    clear c2
    by_cases c3 : x3_1 = a0
    ·rw [if_pos c3] at H
     have c3b0 : (x3_1 == a0) = true := beq_iff_eq.mpr c3
     have c3b1 : (x3_1 != a0) = false := bne_eq_false_iff_eq.mpr c3
     clear c3
     obtain rfl := Option.some.inj H
     go_wp2
     go_ret
     exact ⟨(by first | rfl | (simp; done) | (simp [*]; done)), (by repeat (first | exact Drawn0.refl _ | apply Drawn0.step))⟩
    rw [if_neg c3] at H
    have c3b0 : (x3_1 == a0) = false := beq_eq_false_iff_ne.mpr c3
    have c3b1 : (x3_1 != a0) = true := bne_iff_ne.mpr c3
    have H' := Aside0.mk H
    clear H
    go_wp2
    go_roundg k1
    case measure => have := HK1.out; omega
    case rel => exact ⟨(wrap64 (x3_1 * 2)), q3_2, H', ⟨(by have := HK1.out; omega)⟩, (by repeat (first | exact Drawn0.refl _ | apply Drawn0.step))⟩
   rw [if_neg c2] at H
   have c2b0 : decide (x3_1 ≤ 65536) = false := decide_eq_false c2
   clear c2
   obtain rfl := Option.some.inj H
   go_wp2
   go_ret
   exact ⟨(by first | rfl | (simp; done) | (simp [*]; done)), (by repeat (first | exact Drawn0.refl _ | apply Drawn0.step))⟩
end Go.Proofs.Ytohilfkdfcihgaa.PDi
