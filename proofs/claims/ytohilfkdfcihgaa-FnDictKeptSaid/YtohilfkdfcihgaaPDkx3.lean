/- Go functions as Lean functions, and that each Go function comes to just that; printed by a program of this session (gprint.py over the kit's print.py). No condition. -/
import Derived.Test.YtohilfkdfcihgaaPDky0
import Derived.Test.YtohilfkdfcihgaaPDkx2
import Derived.Test.YtohilfkdfcihgaaPDix3
import Derived.Test.YtohilfkdfcihgaaPDix4
namespace Go.Proofs.Ytohilfkdfcihgaa.PDi
open Go.RowKit Go.Proofs.YtohilfkdfcihgaaW.PrintWords Go.Proofs.YtohilfkdfcihgaaW.PrintLast Go.Proofs.YtohilfkdfcihgaaW.PrintMore
attribute [local go_sem] max2_int min2_int max_two min_two max_three min_three max_four min_four   -- for this text's walks alone
set_option linter.unusedVariables false
set_option linter.unusedSimpArgs false
theorem qpa_pdkx3 {P : Prop} (h : P := by simp only [Act.put, List.setIfInBounds_toArray, List.set_cons_zero, List.set_cons_succ, i64_w, i32_w]; rfl) : P := h
theorem qnl_pdkx3 {w : World} {g n : Nat} {cs : Array Value} {t : TypeId} {fr : Nat × Nat} {Q : Prop} (y : Q) (hg : n = w.heap.size) (h : Q → w.heap[g]? = some (.cells cs t fr) := by intro y_; (with_reducible repeat (first | refine blk_drewN ?_ _ | refine blk_drew ?_ | refine blk_alloc ?_ _)); exact y_.out) : g ≠ n := by
  rw [hg]; exact Nat.ne_of_lt (blk_lt (h y))
theorem qng_pdkx3 {w : World} {g n : Nat} {cs : Array Value} {t : TypeId} {fr : Nat × Nat} {Q : Prop} (y : Q) (hg : n = w.heap.size) (h : Q → w.heap[g]? = some (.cells cs t fr) := by intro y_; (with_reducible repeat (first | refine blk_drewN ?_ _ | refine blk_drew ?_ | refine blk_alloc ?_ _)); exact y_.out) : n ≠ g := by
  rw [hg]; exact Nat.ne_of_gt (blk_lt (h y))
theorem qpy_pdkx3 {P : Prop} (h : P := by intro w'; go_simp; with_reducible rfl) : P := h
theorem qpt3_pdkx3 {P : Prop} (h : P := by rintro w' ⟨s0, s1, s2⟩; go_simp; with_reducible rfl) : P := h
theorem rdk3_1 {P Q0 Q1 Q2 : Prop} (y0 : Q0) (y1 : Q1) (y2 : Q2) (h : Q0 → Q1 → Q2 → P := by intro y0_ y1_ y2_; repeat (first | (with_reducible first | exact y0_.out | apply below_alloc | apply pw_below_drewN | apply below_drew1 | refine below_set ?_ y1_.out | refine below_set ?_ y2_.out) | exact y0_.out)) : P := h y0 y1 y2
theorem rdk3_2 {P Q0 : Prop} (y0 : Q0) (h : Q0 → P := by intro y0_; (with_reducible repeat (first | refine blk_drewN ?_ _ | refine blk_drew ?_ | refine blk_alloc ?_ _)); exact y0_.out) : P := h y0
theorem rdk3_3 {P Q0 : Prop} (y0 : Q0) (h : Q0 → P := by intro y0_; (with_reducible repeat (first | apply Kd.R_alloc | apply Kd.R_drewN | apply Kd.R_drew)); exact y0_.out) : P := h y0
theorem rdk3_4 {P Q0 Q1 : Prop} (y0 : Q0) (y1 : Q1) (h : Q0 → Q1 → P := by intro y0_ y1_; (with_reducible repeat (first | apply Kd.R_alloc | apply Kd.R_drewN | apply Kd.R_drew)); exact Kd.R_mono (Kd.R_far (p := ⟨gb165, 2, none⟩) (Kd.R_far (p := ⟨gb165, 1, none⟩) (Kd.R_far (p := ⟨gb165, 0, none⟩) (Kd.R_types y0_.out y1_.out (by decide)) (fun _ hk => hk.2) (.slice Ao16 t166.length co16)) (fun _ hk => hk.2) (.slice (some ⟨go10, 0, none⟩) t169.length co18)) (fun _ hk => hk.2) (.int .i64 t172)) (fun _ hk => trivial)) : P := h y0 y1
theorem rdk3_5 {P Q0 Q1 : Prop} (y0 : Q0) (y1 : Q1) (h : Q0 → Q1 → P := by intro y0_ y1_; (with_reducible repeat (first | apply Kd.R_alloc | apply Kd.R_drewN | apply Kd.R_drew)); exact Kd.R_mono (Kd.R_far (p := ⟨gb165, 2, none⟩) (Kd.R_far (p := ⟨gb165, 1, none⟩) (Kd.R_far (p := ⟨gb165, 0, none⟩) (Kd.R_types y0_.out y1_.out (by decide)) (fun _ hk => hk.2) (.slice Ao65 t187.length co65)) (fun _ hk => hk.2) (.slice Ao63 y184.length co63)) (fun _ hk => hk.2) (.int .i64 (wrap64 (t172 + 1)))) (fun _ hk => trivial)) : P := h y0 y1
theorem rdk3_6 {P Q0 Q1 : Prop} (y0 : Q0) (y1 : Q1) (h : Q0 → Q1 → P := by intro y0_ y1_; (with_reducible repeat (first | apply Kd.R_alloc | apply Kd.R_drewN | apply Kd.R_drew)); exact Kd.R_mono (Kd.R_far (p := ⟨gb165, 2, none⟩) (Kd.R_far (p := ⟨gb165, 1, none⟩) (Kd.R_far (p := ⟨gb165, 0, none⟩) (Kd.R_types y0_.out y1_.out (by decide)) (fun _ hk => hk.2) (.slice Ao85 t193.length co85)) (fun _ hk => hk.2) (.slice Ao83 y190.length co83)) (fun _ hk => hk.2) (.int .i64 (wrap64 (t172 + 1)))) (fun _ hk => trivial)) : P := h y0 y1
theorem rdk3_7 {P Q0 Q1 : Prop} (y0 : Q0) (y1 : Q1) (h : Q0 → Q1 → P := by intro y0_ y1_; (with_reducible repeat (first | apply Kd.R_alloc | apply Kd.R_drewN | apply Kd.R_drew)); exact Kd.R_mono (Kd.R_far (p := ⟨gb165, 2, none⟩) (Kd.R_far (p := ⟨gb165, 1, none⟩) (Kd.R_far (p := ⟨gb165, 0, none⟩) (Kd.R_types y0_.out y1_.out (by decide)) (fun _ hk => hk.2) (.slice Ao31 t166.length co31)) (fun _ hk => hk.2) (.slice Ao33 t169.length co33)) (fun _ hk => hk.2) (.int .i64 t172)) (fun _ hk => trivial)) : P := h y0 y1
theorem rdk3_8 {P : Prop} (h : P := by first | rfl | (simp [errW_none, errW_some] <;> rfl) | (simp [*, errW_none, errW_some] <;> rfl)) : P := h
theorem rdk3_9 {P Q0 : Prop} (y0 : Q0) (h : Q0 → P := by intro y0_; (with_reducible repeat (first | apply Kd.R_alloc | apply Kd.R_drewN | apply Kd.R_drew)); exact Kd.R_mono y0_.out (fun _ hk => hk.2)) : P := h y0
theorem qdk3_1 {P Q0 Q1 Q2 : Prop} (y0 : Q0) (y1 : Q1) (y2 : Q2) (h : Q0 → Q1 → Q2 → P := by intro y0_ y1_ y2_; repeat (first | (with_reducible first | exact y0_.out | apply below_alloc | apply pw_below_drewN | apply below_drew1 | refine below_set ?_ y1_.out | refine below_set ?_ y2_.out) | exact y0_.out)) : P := h y0 y1 y2
theorem qdk3_2 {P Q0 : Prop} (y0 : Q0) (h : Q0 → P := by intro y0_; (with_reducible repeat (first | refine blk_drewN ?_ _ | refine blk_drew ?_ | refine blk_alloc ?_ _)); exact y0_.out) : P := h y0
theorem qdk3_3 {P Q0 : Prop} (y0 : Q0) (h : Q0 → P := by intro y0_; (with_reducible repeat (first | apply Kd.R_alloc | apply Kd.R_drewN | apply Kd.R_drew)); exact y0_.out) : P := h y0
theorem qdk3_4 {P Q0 Q1 : Prop} (y0 : Q0) (y1 : Q1) (h : Q0 → Q1 → P := by intro y0_ y1_; (with_reducible repeat (first | apply Kd.R_alloc | apply Kd.R_drewN | apply Kd.R_drew)); exact (Kd.R_mono (Kd.R_far (p := ⟨gb164, 2, none⟩) (Kd.R_far (p := ⟨gb164, 1, none⟩) (Kd.R_far (p := ⟨gb164, 0, none⟩) (Kd.R_types y0_.out y1_.out (by decide)) (fun _ hk => hk.2) (.slice Ao16 t166.length co16)) (fun _ hk => hk.2) (.slice Ao18 t169.length co18)) (fun _ hk => hk.2) (.int .i64 t172)) (fun _ h_ => h_.1))) : P := h y0 y1
theorem qdk3_5 {P Q0 Q1 : Prop} (y0 : Q0) (y1 : Q1) (h : Q0 → Q1 → P := by intro y0_ y1_; (with_reducible repeat (first | apply Kd.R_alloc | apply Kd.R_drewN | apply Kd.R_drew)); exact (Kd.R_mono (Kd.R_far (p := ⟨gb164, 2, none⟩) (Kd.R_far (p := ⟨gb164, 1, none⟩) (Kd.R_far (p := ⟨gb164, 0, none⟩) (Kd.R_types y0_.out y1_.out (by decide)) (fun _ hk => hk.2) (.slice Ao31 t166.length co31)) (fun _ hk => hk.2) (.slice Ao33 t169.length co33)) (fun _ hk => hk.2) (.int .i64 t172)) (fun _ h_ => h_.1))) : P := h y0 y1
theorem qdk3_6 {P Q0 Q1 : Prop} (y0 : Q0) (y1 : Q1) (h : Q0 → Q1 → P := by intro y0_ y1_; (with_reducible repeat (first | apply Kd.R_alloc | apply Kd.R_drewN | apply Kd.R_drew)); exact (Kd.R_mono (Kd.R_far (p := ⟨gb164, 2, none⟩) (Kd.R_far (p := ⟨gb164, 1, none⟩) (Kd.R_far (p := ⟨gb164, 0, none⟩) (Kd.R_types y0_.out y1_.out (by decide)) (fun _ hk => hk.2) (.slice Ao76 t166.length co76)) (fun _ hk => hk.2) (.slice Ao78 t169.length co78)) (fun _ hk => hk.2) (.int .i64 t172)) (fun _ h_ => h_.1))) : P := h y0 y1
theorem qdk3_7 {P Q0 Q1 : Prop} (y0 : Q0) (y1 : Q1) (h : Q0 → Q1 → P := by intro y0_ y1_; repeat (first | (with_reducible first | exact y0_.out | apply below_alloc | apply pw_below_drewN | apply below_drew1 | refine below_set ?_ y1_.out) | exact y0_.out)) : P := h y0 y1
theorem qdk3_8 {P Q0 : Prop} (y0 : Q0) (h : Q0 → P := by intro y0_; repeat (first | (with_reducible first | exact y0_.out | apply below_alloc | apply pw_below_drewN | apply below_drew1) | exact y0_.out)) : P := h y0
theorem qdk3_9 {P : Prop} (h : P := by (try simp only [List.map_toArray, List.map_cons, List.map_nil]); first | done | rfl | (simp only [List.length_drop, List.length_take]; rfl)) : P := h
theorem qdk3_10 {P Q0 Q1 : Prop} (y0 : Q0) (y1 : Q1) (h : Q0 → Q1 → P := by intro y0_ y1_; (with_reducible repeat (first | refine blk_drewN ?_ _ | refine blk_drew ?_ | refine blk_alloc ?_ _)); refine blk_far ?_ y0_.out _; (with_reducible repeat (first | refine blk_drewN ?_ _ | refine blk_drew ?_ | refine blk_alloc ?_ _)); refine blk_far ?_ y0_.out _; (with_reducible repeat (first | refine blk_drewN ?_ _ | refine blk_drew ?_ | refine blk_alloc ?_ _)); refine blk_far ?_ y0_.out _; (with_reducible repeat (first | refine blk_drewN ?_ _ | refine blk_drew ?_ | refine blk_alloc ?_ _)); exact y1_.out) : P := h y0 y1
theorem qdk3_11 {P Q0 Q1 : Prop} (y0 : Q0) (y1 : Q1) (h : Q0 → Q1 → P := by intro y0_ y1_; repeat (first | exact (Kd.C_below y0_.out y1_.out) | (with_reducible refine Kd.C_alloc ?_ _) | (with_reducible refine Kd.C_drewN ?_ _) | (with_reducible refine Kd.C_drew ?_))) : P := h y0 y1
theorem qdk3_12 {P : Prop} (h : P := by first | (with_reducible assumption) | assumption) : P := h
theorem qdk3_13 {P : Prop} (h : P := by kernel_rfl) : P := h
theorem qdk3_14 {P : Prop} (h : P := by first | (go_simp; done) | (go_simp; rfl)) : P := h
mutual
def spec_l7Put.l0 : Nat → Int → Int → Int → Int → List Int → List (S62) → Int → Option (List Int × (List (S62)) × Int × Bool)
 | 0, _, _, _, _, _, _, _ => none
 | k + 1, x1, x2, x3, x12, x165000, x165001, x165002 => if x12 ≤ (wrap64 (3 * x165002)) then (spec_l7Put.l0 k x1 x2 x3 (wrap64 (x12 * 2)) x165000 x165001 x165002) else (if x12 > 65536 then (some (x165000, x165001, x165002, false)) else (spec_l7Put.l1 k x1 x2 x3 x12 (([] : List (S62))) 0 x165000 x165001 x165002))
def spec_l7Put.l1 : Nat → Int → Int → Int → Int → List (S62) → Int → List Int → List (S62) → Int → Option (List Int × (List (S62)) × Int × Bool)
 | 0, _, _, _, _, _, _, _, _, _ => none
 | k + 1, x1, x2, x3, x12, x13, x14, x165000, x165001, x165002 => if x14 < (x165001.length : Int) then (if 0 ≤ x14 then (if ((rd_T62 x165001 x14).f3 = true) then (spec_l7Put.l1 k x1 x2 x3 x12 x13 (wrap64 (x14 + 1)) x165000 x165001 x165002) else (if x13.length < 4398046511104 then (spec_l7Put.l1 k x1 x2 x3 x12 (x13 ++ [(⟨(rd_T62 x165001 x14).f0, (rd_T62 x165001 x14).f1, (rd_T62 x165001 x14).f2, (rd_T62 x165001 x14).f3⟩ : S62)]) (wrap64 (x14 + 1)) x165000 x165001 x165002) else (none))) else (none)) else (if x13.length < 4398046511104 then ((some (x13 ++ [(⟨x1, x2, x3, false⟩ : S62)] : List (S62))).bind fun y184 => ((spec_l7Table.f k y184 x12).bind fun t187 => (some (t187, y184, wrap64 (x165002 + 1), true)))) else (none))
end
def spec_l7Put.f (k : Nat) (l0_0 : List Int) (l0_1 : List (S62)) (a0_2 : Int) (a1 : Int) (a2 : Int) (a3 : Int) : Option (List Int × (List (S62)) × Int × Bool) := (spec_l7Copy.f l0_0 l0_1 a0_2).bind fun bt166 => ((spec_l7Find.f k bt166.1 bt166.2.1 bt166.2.2 a1 a2).bind fun bt173 => (if bt173.1 ≥ 0 then (if 0 ≤ bt173.1 then (if bt173.1 < (bt166.2.1.length : Int) then (some (bt166.1, (bt166.2.1.set (bt173.1 : Int).toNat (⟨(rd_T62 bt166.2.1 bt173.1).f0, (rd_T62 bt166.2.1 bt173.1).f1, a3, (rd_T62 bt166.2.1 bt173.1).f3⟩ : S62)), bt166.2.2, true)) else (none)) else (none)) else (if (bt166.2.1.length : Int) ≥ (wrap64 (Int.tdiv (wrap64 ((bt166.1.length : Int) * 2)) 3)) then (spec_l7Put.l0 k a1 a2 a3 8 bt166.1 bt166.2.1 bt166.2.2) else (if bt166.2.1.length < 4398046511104 then ((some (bt166.2.1 ++ [(⟨a1, a2, a3, false⟩ : S62)] : List (S62))).bind fun y190 => ((spec_l7Table.f k y190 (bt166.1.length : Int)).bind fun t193 => (some (t193, y190, wrap64 (bt166.2.2 + 1), true)))) else (none)))))
def spec_l7Put.T21 : Bool × List (List Nat × List Nat) := (true, [([], []), ([], []), ([0, 1], [0, 1]), ([], []), ([], []), ([4], [4]), ([5], [5]), ([2, 3, 6], [2, 3, 6]), ([7, 2, 0, 1, 2, 3, 4, 5, 6, 7], [7]), ([8, 0, 1, 2, 3, 4, 5, 6, 7, 8], [])])
def spec_l7Put.B21 : List Nat := [0, 0, 3, 0, 0, 16, 48, 127, 255, 511]
theorem spec_l7Put.tab21 : rtab .any (opsOf Try.f59 21) = spec_l7Put.T21 := by kernel_rfl
theorem spec_l7Put.bits21 : waitsOk spec_l7Put.T21.2 spec_l7Put.B21 = true := by kernel_rfl
set_option maxHeartbeats 8000000 in
set_option maxRecDepth 100000 in
theorem spec_l7Put.calls (k : Nat) (A0_0 : Option Addr) (c0_0 : Nat) (l0_0 : List Int) (A0_1 : Option Addr) (c0_1 : Nat) (l0_1 : List (S62)) (a0_2 : Int) (a1 : Int) (a2 : Int) (a3 : Int) (r1 : List Int) (r2 : List (S62)) (r3 : Int) (r4 : Bool) (w : World) (hr0_0 : Kd.C (Kd.int .i64) w A0_0 l0_0.length l0_0) (hc0_0 : l0_0.length ≤ c0_0) (hr0_1 : Kd.C k62 w A0_1 l0_1.length l0_1) (hc0_1 : l0_1.length ≤ c0_1) (h : spec_l7Put.f k l0_0 l0_1 a0_2 a1 a2 a3 = some (r1, r2, r3, r4)) :
  Calls Try.prog 59 #[.agg #[.slice A0_0 l0_0.length c0_0, .slice A0_1 l0_1.length c0_1, .int .i64 a0_2], .int .u64 a1, .int .i64 a2, .int .i64 a3] w fun e w' => ∃ v0_ v1_ : Value, e = .returned (.tuple #[.agg #[v0_, v1_, .int .i64 r3], .bool r4]) ∧ Kd.R (Kd.int .i64) 2 w' w.heap.size (fun _ => True) v0_ r1 ∧ Kd.R k62 62 w' w.heap.size (fun _ => True) v1_ r2 ∧ Below w.heap.size w w' := by
 have hu25 := Try.underlying25
 have hu62 := Try.underlying62
 have HR0_0 := Aside0.mk hr0_0
 have HC0_0 := Aside0.mk hc0_0
 clear hr0_0 hc0_0
 have HR0_1 := Aside0.mk hr0_1
 have HC0_1 := Aside0.mk hc0_1
 clear hr0_1 hc0_1
 have HB := Aside0.mk (Below.refl w.heap.size w)
 have H : ((spec_l7Copy.f l0_0 l0_1 a0_2).bind fun bt166 => ((spec_l7Find.f k bt166.1 bt166.2.1 bt166.2.2 a1 a2).bind fun bt173 => (if bt173.1 ≥ 0 then (if 0 ≤ bt173.1 then (if bt173.1 < (bt166.2.1.length : Int) then (some (bt166.1, (bt166.2.1.set (bt173.1 : Int).toNat (⟨(rd_T62 bt166.2.1 bt173.1).f0, (rd_T62 bt166.2.1 bt173.1).f1, a3, (rd_T62 bt166.2.1 bt173.1).f3⟩ : S62)), bt166.2.2, true)) else (none)) else (none)) else (if (bt166.2.1.length : Int) ≥ (wrap64 (Int.tdiv (wrap64 ((bt166.1.length : Int) * 2)) 3)) then (spec_l7Put.l0 k a1 a2 a3 8 bt166.1 bt166.2.1 bt166.2.2) else (if bt166.2.1.length < 4398046511104 then ((some (bt166.2.1 ++ [(⟨a1, a2, a3, false⟩ : S62)] : List (S62))).bind fun y190 => ((spec_l7Table.f k y190 (bt166.1.length : Int)).bind fun t193 => (some (t193, y190, wrap64 (bt166.2.2 + 1), true)))) else (none)))))) = some (r1, r2, r3, r4) := h
 clear h
 replace H := Option.bind_eq_some_iff.mp H
 obtain ⟨⟨t166, t169, t172⟩, A50, H⟩ := H
 replace H : ((spec_l7Find.f k t166 t169 t172 a1 a2).bind fun bt173 => (if bt173.1 ≥ 0 then (if 0 ≤ bt173.1 then (if bt173.1 < (t169.length : Int) then (some (t166, (t169.set (bt173.1 : Int).toNat (⟨(rd_T62 t169 bt173.1).f0, (rd_T62 t169 bt173.1).f1, a3, (rd_T62 t169 bt173.1).f3⟩ : S62)), t172, true)) else (none)) else (none)) else (if (t169.length : Int) ≥ (wrap64 (Int.tdiv (wrap64 ((t166.length : Int) * 2)) 3)) then (spec_l7Put.l0 k a1 a2 a3 8 t166 t169 t172) else (if t169.length < 4398046511104 then ((some (t169 ++ [(⟨a1, a2, a3, false⟩ : S62)] : List (S62))).bind fun y190 => ((spec_l7Table.f k y190 (t166.length : Int)).bind fun t193 => (some (t193, y190, wrap64 (t172 + 1), true)))) else (none))))) = some (r1, r2, r3, r4) := H
 have A5 := Aside0.mk A50
 clear A50
 replace H := Option.bind_eq_some_iff.mp H
 obtain ⟨⟨t173, t174⟩, A60, H⟩ := H
 replace H : (if t173 ≥ 0 then (if 0 ≤ t173 then (if t173 < (t169.length : Int) then (some (t166, (t169.set (t173 : Int).toNat (⟨(rd_T62 t169 t173).f0, (rd_T62 t169 t173).f1, a3, (rd_T62 t169 t173).f3⟩ : S62)), t172, true)) else (none)) else (none)) else (if (t169.length : Int) ≥ (wrap64 (Int.tdiv (wrap64 ((t166.length : Int) * 2)) 3)) then (spec_l7Put.l0 k a1 a2 a3 8 t166 t169 t172) else (if t169.length < 4398046511104 then ((some (t169 ++ [(⟨a1, a2, a3, false⟩ : S62)] : List (S62))).bind fun y190 => ((spec_l7Table.f k y190 (t166.length : Int)).bind fun t193 => (some (t193, y190, wrap64 (t172 + 1), true)))) else (none)))) = some (r1, r2, r3, r4) := H
 have A6 := Aside0.mk A60
 clear A60
 by_cases c7 : t173 ≥ 0
 ·rw [if_pos c7] at H
  have c7b0 : decide (0 ≤ t173) = true := decide_eq_true c7
  clear c7
  by_cases c8 : 0 ≤ t173
  ·rw [if_pos c8] at H
   have c8b0 : decide (0 ≤ t173) = true := decide_eq_true c8
   clear c8
   by_cases c9 : t173 < (t169.length : Int)
   ·rw [if_pos c9] at H
    have c9b0 : decide (t173 < (t169.length : Int)) = true := decide_eq_true c9
    clear c9
    obtain ⟨y175, hy175⟩ : ∃ y_ : List (S62), y_ = (t169.set (t173 : Int).toNat (⟨(rd_T62 t169 t173).f0, (rd_T62 t169 t173).f1, a3, (rd_T62 t169 t173).f3⟩ : S62)) := ⟨_, rfl⟩
    replace H : (some (t166, y175, t172, true)) = some (r1, r2, r3, r4) := by first | (rw [hy175]; with_reducible exact H) | (have H2_ := (Option.bind_some _ _).symm.trans H; rw [hy175]; with_reducible exact H2_) | (have H2_ := (Option.bind_some _ _).symm.trans H; with_reducible exact H2_) | with_reducible exact H | (rw [hy175]; exact H) | exact H
    have Ny175 := Aside0.mk hy175
    clear hy175
    simp only [Option.some.injEq, Prod.mk.injEq] at H
    obtain ⟨rfl, rfl, rfl, rfl⟩ := H
    go_enter Try.func59, Try.ntmps59
    go_wp2_with (first | ((with_reducible refine gate_dst (N := 4) rfl ?_); refine box_event ?hg (N := 4) ?hd (cs := #[.slice A0_0 l0_0.length c0_0, .slice A0_1 l0_1.length c0_1, .int .i64 a0_2]) (t := 25) ?hr ?_; (case hd => rfl); (case hg => rfl); (case hr => exact qdk3_14); intro gb164 hg w11 hbox hb; have n0_ := Aside0.mk (below_step (qdk3_8 HB) hb); have n1_ := Aside0.mk (hbox); have n2_ := Aside0.mk ((by rw [hg]; exact (below_size (qdk3_8 HB)) : w.heap.size ≤ gb164)); have n3_ := Aside0.mk ((by rw [hg]; exact (below_size (qdk3_8 HB)) : w.heap.size ≤ gb164)); clear HB; have HB := n0_; have BK164 := n1_; have GW164 := n2_; have GE164 := n3_; clear n0_ n1_ n2_ n3_; clear hb hbox hg) | ((with_reducible refine gate_dst (N := 8) rfl ?_); refine box_event ?hg (N := 8) ?hd (cs := #[.slice none 0 0, .slice none 0 0, .int .i64 0]) (t := 25) ?hr ?_; (case hd => rfl); (case hg => rfl); (case hr => exact qdk3_14); intro gb165 hg w12 hbox hb; have n0_ := Aside0.mk (blk_below (qdk3_2 BK164) hb); have n1_ := Aside0.mk (below_step (qdk3_7 HB GE164) hb); have n2_ := Aside0.mk (hbox); have n3_ := Aside0.mk ((by rw [hg]; exact (below_size (qdk3_7 HB GE164)) : w.heap.size ≤ gb165)); have n4_ := Aside0.mk ((by rw [hg]; exact (below_size (qdk3_7 HB GE164)) : w.heap.size ≤ gb165)); have n5_ := Aside0.mk ((qnl_pdkx3 BK164 hg : gb164 ≠ gb165)); have n6_ := Aside0.mk ((qng_pdkx3 BK164 hg : gb165 ≠ gb164)); clear BK164 HB; have BK164 := n0_; have HB := n1_; have BK165 := n2_; have GW165 := n3_; have GE165 := n4_; have NB164_165 := n5_; have NB165_164 := n6_; clear n0_ n1_ n2_ n3_ n4_ n5_ n6_; clear hb hbox hg; have hnb13 := NB164_165.out; have hnc13 := NB165_164.out; have hcz14_0 : w12.cell? ⟨gb164, 0, none⟩ = some (.slice A0_0 l0_0.length c0_0) := (blk_cell BK164.out 0).trans rfl; have hcz14_1 : w12.cell? ⟨gb164, 1, none⟩ = some (.slice A0_1 l0_1.length c0_1) := (blk_cell BK164.out 1).trans rfl; have hcz14_2 : w12.cell? ⟨gb164, 2, none⟩ = some (.int .i64 a0_2) := (blk_cell BK164.out 2).trans rfl; have hfz14_0 := blk_frozen BK164.out 0; have hfz14_1 := blk_frozen BK164.out 1; have hfz14_2 := blk_frozen BK164.out 2) | ((with_reducible refine gate_callee (f := 74) rfl ?_); refine goesL_ (some 16) rfl rfl Try.func74 qdk3_13 rfl #[.agg #[.slice A0_0 l0_0.length c0_0, .slice A0_1 l0_1.length c0_1, .int .i64 a0_2]] rfl qdk3_9 ?_; (with_reducible refine (spec_l7Copy.calls _ _ l0_0 _ _ l0_1 a0_2 t166 t169 t172 _ ?side1 ?side2 ?side3 ?side4 A5.out).mono ?_); (case side1 => exact (qdk3_11 HR0_0 HB)); (case side2 => exact HC0_0.out); (case side3 => exact (qdk3_11 HR0_1 HB)); (case side4 => exact HC0_1.out); rintro e w15 ⟨v167, v170, rfl, ho0, ho1, hb⟩; refine ⟨_, rfl, ?_⟩; have n0_ := Aside0.mk (Kd.R_lower ho0 (below_size (qdk3_1 HB GE164 GE165))); have n1_ := Aside0.mk (Kd.R_lower ho1 (below_size (qdk3_1 HB GE164 GE165))); have n2_ := Aside0.mk (blk_below (qdk3_2 BK164) hb); have n3_ := Aside0.mk (blk_below (qdk3_2 BK165) hb); have n4_ := Aside0.mk (below_step (qdk3_1 HB GE164 GE165) hb); clear BK164 BK165 HB; have HO168 := n0_; have HO171 := n1_; have BK164 := n2_; have BK165 := n3_; have HB := n4_; clear n0_ n1_ n2_ n3_ n4_; (try clear hb); (try clear hb2); (try clear hk); (try clear hi); (try clear ho0); (try clear ho1); obtain ⟨Ao16, co16, eo16⟩ := Kd.R_slice HO168.out; subst eo16; have hcz17_0 : w15.cell? ⟨gb164, 0, none⟩ = some (.slice A0_0 l0_0.length c0_0) := (blk_cell BK164.out 0).trans rfl; have hcz17_1 : w15.cell? ⟨gb164, 1, none⟩ = some (.slice A0_1 l0_1.length c0_1) := (blk_cell BK164.out 1).trans rfl; have hcz17_2 : w15.cell? ⟨gb164, 2, none⟩ = some (.int .i64 a0_2) := (blk_cell BK164.out 2).trans rfl; have hfz17_0 := blk_frozen BK164.out 0; have hfz17_1 := blk_frozen BK164.out 1; have hfz17_2 := blk_frozen BK164.out 2; obtain ⟨Ao18, co18, eo18⟩ := Kd.R_slice HO171.out; subst eo18) | ((with_reducible refine gate_callee (f := 55) rfl ?_); refine goesL_ (some 21) rfl rfl Try.func55 qdk3_13 rfl #[.agg #[.slice Ao16 t166.length co16, .slice Ao18 t169.length co18, .int .i64 t172], .int .u64 a1, .int .i64 a2] rfl qdk3_9 ?_; (with_reducible refine (spec_l7Find.calls k _ _ t166 _ _ t169 t172 a1 a2 t173 t174 _ ?side1 ?side2 ?side3 ?side4 A6.out).mono ?_); (case side1 => exact (by refine (Kd.R_reads' (e := 2) (base := w.heap.size) (ok := fun k_ => True) (n := t166.length) (c := co16) ?_).2.2; exact (qdk3_4 HO168 BK164))); (case side2 => exact (Kd.R_reads' HO168.out).2.1); (case side3 => exact (by refine (Kd.R_reads' (e := 62) (base := w.heap.size) (ok := fun k_ => True) (n := t169.length) (c := co18) ?_).2.2; exact (qdk3_4 HO171 BK164))); (case side4 => exact (Kd.R_reads' HO171.out).2.1); rintro e w19 ⟨rfl, hb⟩; refine ⟨_, rfl, ?_⟩; have n0_ := Aside0.mk (Kd.R_below (qdk3_4 HO168 BK164) hb); have n1_ := Aside0.mk (Kd.R_below (qdk3_4 HO171 BK164) hb); have n2_ := Aside0.mk (blk_below (g := gb164) (o := .cells #[.slice Ao16 t166.length co16, .slice Ao18 t169.length co18, .int .i64 t172] 25 (0, 0)) (by (with_reducible repeat (first | refine blk_drewN ?_ _ | refine blk_drew ?_ | refine blk_alloc ?_ _)); refine blk_put (cs := #[.slice Ao16 t166.length co16, .slice Ao18 t169.length co18, .int .i64 a0_2]) ?_ 2 _ rfl; (with_reducible repeat (first | refine blk_drewN ?_ _ | refine blk_drew ?_ | refine blk_alloc ?_ _)); refine blk_put (cs := #[.slice Ao16 t166.length co16, .slice A0_1 l0_1.length c0_1, .int .i64 a0_2]) ?_ 1 _ rfl; (with_reducible repeat (first | refine blk_drewN ?_ _ | refine blk_drew ?_ | refine blk_alloc ?_ _)); refine blk_put (cs := #[.slice A0_0 l0_0.length c0_0, .slice A0_1 l0_1.length c0_1, .int .i64 a0_2]) ?_ 0 _ rfl; (with_reducible repeat (first | refine blk_drewN ?_ _ | refine blk_drew ?_ | refine blk_alloc ?_ _)); exact BK164.out) hb); have n3_ := Aside0.mk (blk_below (g := gb165) (o := .cells #[.slice none 0 0, .slice none 0 0, .int .i64 0] 25 (0, 0)) (qdk3_10 NB165_164 BK165) hb); have n4_ := Aside0.mk (below_step (qdk3_1 HB GE164 GE165) hb); clear HO168 HO171 BK164 BK165 HB; have HO168 := n0_; have HO171 := n1_; have BK164 := n2_; have BK165 := n3_; have HB := n4_; clear n0_ n1_ n2_ n3_ n4_; (try clear hb); (try clear hb2); (try clear hk); (try clear hi); have hcz20_0 : w19.cell? ⟨gb164, 0, none⟩ = some (.slice Ao16 t166.length co16) := (blk_cell BK164.out 0).trans rfl; have hcz20_1 : w19.cell? ⟨gb164, 1, none⟩ = some (.slice Ao18 t169.length co18) := (blk_cell BK164.out 1).trans rfl; have hcz20_2 : w19.cell? ⟨gb164, 2, none⟩ = some (.int .i64 t172) := (blk_cell BK164.out 2).trans rfl; have hfz20_0 := blk_frozen BK164.out 0; have hfz20_1 := blk_frozen BK164.out 1; have hfz20_2 := blk_frozen BK164.out 2; have p10 : 0 ≤ (t173 : Int) := of_decide_eq_true qdk3_12; have q10 : (t173 : Int) < ((t169.length : Int) : Int) := of_decide_eq_true qdk3_12; obtain ⟨go10, co10, eo10, gb10, gl10, cl10, HG10⟩ := Kd.R_form HO171.out (by omega); (first | cases eo10 | (injection eo10 with ea_ en_ ec_; (first | subst ea_ | (injection ea_ with ea_; subst ea_)); subst ec_; clear en_)); have GB10 := Aside0.mk gb10; have GG10 := Aside0.mk HG10; clear gb10 gl10 HG10; obtain ⟨ce10, hcl10, hM10, hcc10, hfr10⟩ := Kd.R_elem HO171.out z62 (t173 : Int) p10 q10; obtain rfl := k62_openM hM10; have hx10_0 : w19.cell? ⟨go10, (t173 : Int).toNat * 4, none⟩ = some (.int .u64 ((rd_T62 t169 t173).f0)) := hcc10 0 _ rfl; have hx10_1 : w19.cell? ⟨go10, (t173 : Int).toNat * 4 + 1, none⟩ = some (.int .i64 ((rd_T62 t169 t173).f1)) := hcc10 1 _ rfl; have hx10_2 : w19.cell? ⟨go10, (t173 : Int).toNat * 4 + 2, none⟩ = some (.int .i64 ((rd_T62 t169 t173).f2)) := hcc10 2 _ rfl; have hx10_3 : w19.cell? ⟨go10, (t173 : Int).toNat * 4 + 3, none⟩ = some (.bool ((rd_T62 t169 t173).f3)) := hcc10 3 _ rfl; have hf10_0 : w19.frozen? ⟨go10, (t173 : Int).toNat * 4, none⟩ = false := hfr10 0; have hf10_1 : w19.frozen? ⟨go10, (t173 : Int).toNat * 4 + 1, none⟩ = false := hfr10 1; have hf10_2 : w19.frozen? ⟨go10, (t173 : Int).toNat * 4 + 2, none⟩ = false := hfr10 2; have hf10_3 : w19.frozen? ⟨go10, (t173 : Int).toNat * 4 + 3, none⟩ = false := hfr10 3; clear hcl10 hcc10 hfr10 hM10; replace p10 := eq_true p10; replace q10 := eq_true q10; have HX21 := Aside0.mk (show Kd.R k62 62 w19 w.heap.size (fun _ => True) (.slice (some ⟨go10, 0, none⟩) t169.length co18) t169 from (qdk3_3 HO171)); obtain ⟨ce21, hcl21, hM21, hcc21, hfr21⟩ := Kd.R_elem HX21.out z62 (t173 : Int) (of_decide_eq_true qdk3_12) (by have h_ : (t173 : Int) < ((t169.length : Int) : Int) := of_decide_eq_true qdk3_12; first | exact h_ | (have e_ := (Kd.R_reads' HO171.out).1; omega) | simpa using h_); obtain rfl := k62_openM hM21; have HP21 := Kd.R_seg HX21.out (t173 : Int) (of_decide_eq_true qdk3_12) (by have h_ : (t173 : Int) < ((t169.length : Int) : Int) := of_decide_eq_true qdk3_12; first | exact h_ | (have e_ := (Kd.R_reads' HO171.out).1; omega) | simpa using h_) (seg := [.int .i64 a3]) (j := 2) hcl21 hcc21 (show 3 ≤ 4 from by decide) (x' := (⟨(rd_T62 t169 t173).f0, (rd_T62 t169 t173).f1, a3, (rd_T62 t169 t173).f3⟩ : S62)) (k62_mkM _ _ _ (⟨(rd_T62 t169 t173).f0, (rd_T62 t169 t173).f1, a3, (rd_T62 t169 t173).f3⟩ : S62) ) (fun _ hk => hk); have hx21_2 := hcc21 2 _ rfl; (try simp only [show (k62).sz = 4 from rfl, Nat.mul_one, Nat.add_zero] at hx21_2); have hf21_2 := hfr21 2; (try simp only [show (k62).sz = 4 from rfl, Nat.mul_one, Nat.add_zero] at hf21_2); clear hcl21 hcc21 hfr21 hM21) | ((with_reducible refine gate_store (t := 2) (p := 31) rfl ?_); refine store_event (t := 2) (p := 31) (v := ?vo_w22) (w1 := (w19.setCell ⟨go10, (t173 : Int).toNat * 4 + 2, none⟩ (.int .i64 a3))) ?hg ?ho ?hn ?hr ?_; (case ho => rfl); (case hg => rfl); (case hn => rfl); (case hr => exact qdk3_14); intro w22 hw; have hg : w19.grownBy w22 (some go10) := (by rw [hw]; exact HP21.2); have hp_ : Kd.R k62 62 w22 w.heap.size (fun _ => True) (.slice (some ⟨go10, 0, none⟩) t169.length co18) y175 := (by rw [hw, Ny175.out]; exact HP21.1); clear HP21; have n0_ := Aside0.mk (blk_grown (g := gb164) (o := .cells #[.slice Ao16 t166.length co16, .slice (some ⟨go10, 0, none⟩) t169.length co18, .int .i64 t172] 25 (0, 0)) (qdk3_2 BK164) hg (Kd.R_ne HO171.out BK164.out (by decide))); have n1_ := Aside0.mk (blk_grown (g := gb165) (o := .cells #[.slice none 0 0, .slice none 0 0, .int .i64 0] 25 (0, 0)) (qdk3_2 BK165) hg (Kd.R_ne HO171.out BK165.out (by decide))); have n2_ := Aside0.mk (Kd.R_over' (v := (.slice (some ⟨go10, 0, none⟩) t169.length co18)) (qdk3_3 HO168) (Kd.R_typed HO171.out) (by decide) hg); have n3_ := Aside0.mk (hp_); have n4_ := Aside0.mk ((by rw [hw]; exact below_set (HB.out) GB10.out : Below w.heap.size w w22)); clear BK164 BK165 HO168 HO171 HB; have BK164 := n0_; have BK165 := n1_; have HO168 := n2_; have HO171 := n3_; have HB := n4_; clear n0_ n1_ n2_ n3_ n4_; clear hg hw hp_; have hcz23_0 : w22.cell? ⟨gb164, 0, none⟩ = some (.slice Ao16 t166.length co16) := (blk_cell BK164.out 0).trans rfl; have hcz23_1 : w22.cell? ⟨gb164, 1, none⟩ = some (.slice (some ⟨go10, 0, none⟩) t169.length co18) := (blk_cell BK164.out 1).trans rfl; have hcz23_2 : w22.cell? ⟨gb164, 2, none⟩ = some (.int .i64 t172) := (blk_cell BK164.out 2).trans rfl; have hfz23_0 := blk_frozen BK164.out 0; have hfz23_1 := blk_frozen BK164.out 1; have hfz23_2 := blk_frozen BK164.out 2; have hcz24_0 : w22.cell? ⟨gb165, 0, none⟩ = some (.slice none 0 0) := (blk_cell BK165.out 0).trans rfl; have hcz24_1 : w22.cell? ⟨gb165, 1, none⟩ = some (.slice none 0 0) := (blk_cell BK165.out 1).trans rfl; have hcz24_2 : w22.cell? ⟨gb165, 2, none⟩ = some (.int .i64 0) := (blk_cell BK165.out 2).trans rfl; have hfz24_0 := blk_frozen BK165.out 0; have hfz24_1 := blk_frozen BK165.out 1; have hfz24_2 := blk_frozen BK165.out 2))
    refine bodyPost_ret (results_ct rfl _ _ gb165 25 #[.slice Ao16 t166.length co16, .slice (some ⟨go10, 0, none⟩) t169.length co18, .int .i64 t172] (0, 0) _ rfl (by (with_reducible repeat (first | refine blk_drewN ?_ _ | refine blk_drew ?_ | refine blk_alloc ?_ _)); refine blk_put (cs := #[.slice Ao16 t166.length co16, .slice (some ⟨go10, 0, none⟩) t169.length co18, .int .i64 0]) ?_ 2 _ rfl; (with_reducible repeat (first | refine blk_drewN ?_ _ | refine blk_drew ?_ | refine blk_alloc ?_ _)); refine blk_put (cs := #[.slice Ao16 t166.length co16, .slice none 0 0, .int .i64 0]) ?_ 1 _ rfl; (with_reducible repeat (first | refine blk_drewN ?_ _ | refine blk_drew ?_ | refine blk_alloc ?_ _)); refine blk_put (cs := #[.slice none 0 0, .slice none 0 0, .int .i64 0]) ?_ 0 _ rfl; (with_reducible repeat (first | refine blk_drewN ?_ _ | refine blk_drew ?_ | refine blk_alloc ?_ _)); exact BK165.out) Try.underlying25 rfl qdk3_13) rfl ?_
    exact ⟨_, _, rdk3_8, (rdk3_4 HO168 BK165), (rdk3_4 HO171 BK165), (rdk3_1 HB GE164 GE165)⟩
   rw [if_neg c9] at H
   exact absurd H (by simp)
  rw [if_neg c8] at H
  exact absurd H (by simp)
 rw [if_neg c7] at H
 have c7b0 : decide (0 ≤ t173) = false := decide_eq_false c7
 clear c7
 by_cases c25 : (t169.length : Int) ≥ (wrap64 (Int.tdiv (wrap64 ((t166.length : Int) * 2)) 3))
 ·rw [if_pos c25] at H
  have c25b0 : decide ((wrap64 (Int.tdiv (wrap64 ((t166.length : Int) * 2)) 3)) ≤ (t169.length : Int)) = true := decide_eq_true c25
  clear c25
  have H' := Aside0.mk H
  clear H
  go_enter Try.func59, Try.ntmps59
  go_wp2_with (first | ((with_reducible refine gate_dst (N := 4) rfl ?_); refine box_event ?hg (N := 4) ?hd (cs := #[.slice A0_0 l0_0.length c0_0, .slice A0_1 l0_1.length c0_1, .int .i64 a0_2]) (t := 25) ?hr ?_; (case hd => rfl); (case hg => rfl); (case hr => exact qdk3_14); intro gb164 hg w26 hbox hb; have n0_ := Aside0.mk (below_step (qdk3_8 HB) hb); have n1_ := Aside0.mk (hbox); have n2_ := Aside0.mk ((by rw [hg]; exact (below_size (qdk3_8 HB)) : w.heap.size ≤ gb164)); have n3_ := Aside0.mk ((by rw [hg]; exact (below_size (qdk3_8 HB)) : w.heap.size ≤ gb164)); clear HB; have HB := n0_; have BK164 := n1_; have GW164 := n2_; have GE164 := n3_; clear n0_ n1_ n2_ n3_; clear hb hbox hg) | ((with_reducible refine gate_dst (N := 8) rfl ?_); refine box_event ?hg (N := 8) ?hd (cs := #[.slice none 0 0, .slice none 0 0, .int .i64 0]) (t := 25) ?hr ?_; (case hd => rfl); (case hg => rfl); (case hr => exact qdk3_14); intro gb165 hg w27 hbox hb; have n0_ := Aside0.mk (blk_below (qdk3_2 BK164) hb); have n1_ := Aside0.mk (below_step (qdk3_7 HB GE164) hb); have n2_ := Aside0.mk (hbox); have n3_ := Aside0.mk ((by rw [hg]; exact (below_size (qdk3_7 HB GE164)) : w.heap.size ≤ gb165)); have n4_ := Aside0.mk ((by rw [hg]; exact (below_size (qdk3_7 HB GE164)) : w.heap.size ≤ gb165)); have n5_ := Aside0.mk ((qnl_pdkx3 BK164 hg : gb164 ≠ gb165)); have n6_ := Aside0.mk ((qng_pdkx3 BK164 hg : gb165 ≠ gb164)); clear BK164 HB; have BK164 := n0_; have HB := n1_; have BK165 := n2_; have GW165 := n3_; have GE165 := n4_; have NB164_165 := n5_; have NB165_164 := n6_; clear n0_ n1_ n2_ n3_ n4_ n5_ n6_; clear hb hbox hg; have hnb28 := NB164_165.out; have hnc28 := NB165_164.out; have hcz29_0 : w27.cell? ⟨gb164, 0, none⟩ = some (.slice A0_0 l0_0.length c0_0) := (blk_cell BK164.out 0).trans rfl; have hcz29_1 : w27.cell? ⟨gb164, 1, none⟩ = some (.slice A0_1 l0_1.length c0_1) := (blk_cell BK164.out 1).trans rfl; have hcz29_2 : w27.cell? ⟨gb164, 2, none⟩ = some (.int .i64 a0_2) := (blk_cell BK164.out 2).trans rfl; have hfz29_0 := blk_frozen BK164.out 0; have hfz29_1 := blk_frozen BK164.out 1; have hfz29_2 := blk_frozen BK164.out 2) | ((with_reducible refine gate_callee (f := 74) rfl ?_); refine goesL_ (some 16) rfl rfl Try.func74 qdk3_13 rfl #[.agg #[.slice A0_0 l0_0.length c0_0, .slice A0_1 l0_1.length c0_1, .int .i64 a0_2]] rfl qdk3_9 ?_; (with_reducible refine (spec_l7Copy.calls _ _ l0_0 _ _ l0_1 a0_2 t166 t169 t172 _ ?side1 ?side2 ?side3 ?side4 A5.out).mono ?_); (case side1 => exact (qdk3_11 HR0_0 HB)); (case side2 => exact HC0_0.out); (case side3 => exact (qdk3_11 HR0_1 HB)); (case side4 => exact HC0_1.out); rintro e w30 ⟨v167, v170, rfl, ho0, ho1, hb⟩; refine ⟨_, rfl, ?_⟩; have n0_ := Aside0.mk (Kd.R_lower ho0 (below_size (qdk3_1 HB GE164 GE165))); have n1_ := Aside0.mk (Kd.R_lower ho1 (below_size (qdk3_1 HB GE164 GE165))); have n2_ := Aside0.mk (blk_below (qdk3_2 BK164) hb); have n3_ := Aside0.mk (blk_below (qdk3_2 BK165) hb); have n4_ := Aside0.mk (below_step (qdk3_1 HB GE164 GE165) hb); clear BK164 BK165 HB; have HO168 := n0_; have HO171 := n1_; have BK164 := n2_; have BK165 := n3_; have HB := n4_; clear n0_ n1_ n2_ n3_ n4_; (try clear hb); (try clear hb2); (try clear hk); (try clear hi); (try clear ho0); (try clear ho1); obtain ⟨Ao31, co31, eo31⟩ := Kd.R_slice HO168.out; subst eo31; have hcz32_0 : w30.cell? ⟨gb164, 0, none⟩ = some (.slice A0_0 l0_0.length c0_0) := (blk_cell BK164.out 0).trans rfl; have hcz32_1 : w30.cell? ⟨gb164, 1, none⟩ = some (.slice A0_1 l0_1.length c0_1) := (blk_cell BK164.out 1).trans rfl; have hcz32_2 : w30.cell? ⟨gb164, 2, none⟩ = some (.int .i64 a0_2) := (blk_cell BK164.out 2).trans rfl; have hfz32_0 := blk_frozen BK164.out 0; have hfz32_1 := blk_frozen BK164.out 1; have hfz32_2 := blk_frozen BK164.out 2; obtain ⟨Ao33, co33, eo33⟩ := Kd.R_slice HO171.out; subst eo33) | ((with_reducible refine gate_callee (f := 55) rfl ?_); refine goesL_ (some 21) rfl rfl Try.func55 qdk3_13 rfl #[.agg #[.slice Ao31 t166.length co31, .slice Ao33 t169.length co33, .int .i64 t172], .int .u64 a1, .int .i64 a2] rfl qdk3_9 ?_; (with_reducible refine (spec_l7Find.calls k _ _ t166 _ _ t169 t172 a1 a2 t173 t174 _ ?side1 ?side2 ?side3 ?side4 A6.out).mono ?_); (case side1 => exact (by refine (Kd.R_reads' (e := 2) (base := w.heap.size) (ok := fun k_ => True) (n := t166.length) (c := co31) ?_).2.2; exact (qdk3_5 HO168 BK164))); (case side2 => exact (Kd.R_reads' HO168.out).2.1); (case side3 => exact (by refine (Kd.R_reads' (e := 62) (base := w.heap.size) (ok := fun k_ => True) (n := t169.length) (c := co33) ?_).2.2; exact (qdk3_5 HO171 BK164))); (case side4 => exact (Kd.R_reads' HO171.out).2.1); rintro e w34 ⟨rfl, hb⟩; refine ⟨_, rfl, ?_⟩; have n0_ := Aside0.mk (Kd.R_below (qdk3_5 HO168 BK164) hb); have n1_ := Aside0.mk (Kd.R_below (qdk3_5 HO171 BK164) hb); have n2_ := Aside0.mk (blk_below (g := gb164) (o := .cells #[.slice Ao31 t166.length co31, .slice Ao33 t169.length co33, .int .i64 t172] 25 (0, 0)) (by (with_reducible repeat (first | refine blk_drewN ?_ _ | refine blk_drew ?_ | refine blk_alloc ?_ _)); refine blk_put (cs := #[.slice Ao31 t166.length co31, .slice Ao33 t169.length co33, .int .i64 a0_2]) ?_ 2 _ rfl; (with_reducible repeat (first | refine blk_drewN ?_ _ | refine blk_drew ?_ | refine blk_alloc ?_ _)); refine blk_put (cs := #[.slice Ao31 t166.length co31, .slice A0_1 l0_1.length c0_1, .int .i64 a0_2]) ?_ 1 _ rfl; (with_reducible repeat (first | refine blk_drewN ?_ _ | refine blk_drew ?_ | refine blk_alloc ?_ _)); refine blk_put (cs := #[.slice A0_0 l0_0.length c0_0, .slice A0_1 l0_1.length c0_1, .int .i64 a0_2]) ?_ 0 _ rfl; (with_reducible repeat (first | refine blk_drewN ?_ _ | refine blk_drew ?_ | refine blk_alloc ?_ _)); exact BK164.out) hb); have n3_ := Aside0.mk (blk_below (g := gb165) (o := .cells #[.slice none 0 0, .slice none 0 0, .int .i64 0] 25 (0, 0)) (qdk3_10 NB165_164 BK165) hb); have n4_ := Aside0.mk (below_step (qdk3_1 HB GE164 GE165) hb); clear HO168 HO171 BK164 BK165 HB; have HO168 := n0_; have HO171 := n1_; have BK164 := n2_; have BK165 := n3_; have HB := n4_; clear n0_ n1_ n2_ n3_ n4_; (try clear hb); (try clear hb2); (try clear hk); (try clear hi); have hcz35_0 : w34.cell? ⟨gb164, 0, none⟩ = some (.slice Ao31 t166.length co31) := (blk_cell BK164.out 0).trans rfl; have hcz35_1 : w34.cell? ⟨gb164, 1, none⟩ = some (.slice Ao33 t169.length co33) := (blk_cell BK164.out 1).trans rfl; have hcz35_2 : w34.cell? ⟨gb164, 2, none⟩ = some (.int .i64 t172) := (blk_cell BK164.out 2).trans rfl; have hfz35_0 := blk_frozen BK164.out 0; have hfz35_1 := blk_frozen BK164.out 1; have hfz35_2 := blk_frozen BK164.out 2))
  go_loopg [12] k (fun kq v12 w' => ∃ (x12_1 : Int), v12 = .int .i64 x12_1 ∧ Aside0 (spec_l7Put.l0 kq a1 a2 a3 x12_1 t166 t169 t172 = some (r1, r2, r3, r4)) ∧ Aside0 (kq ≤ k) ∧ Aside0 (Kd.R (Kd.int .i64) 2 w' w.heap.size (fun _ => True) (.slice Ao31 t166.length co31) t166) ∧ Aside0 (Kd.R k62 62 w' w.heap.size (fun _ => True) (.slice Ao33 t169.length co33) t169) ∧ Aside0 (w'.heap[gb164]? = some (.cells #[(.slice Ao31 t166.length co31), (.slice Ao33 t169.length co33), .int .i64 t172] 25 (0, 0))) ∧ Aside0 (w'.heap[gb165]? = some (.cells #[(.slice none 0 0), (.slice none 0 0), .int .i64 0] 25 (0, 0))) ∧ Aside0 (Below w.heap.size w w'))
  case atStart => exact ⟨(8), (by first | rfl | (simp; done) | (simp [*]; done)), H', ⟨Nat.le_refl _⟩, ⟨(rdk3_3 HO168)⟩, ⟨(rdk3_3 HO171)⟩, ⟨(rdk3_2 BK164)⟩, ⟨(rdk3_2 BK165)⟩, ⟨(rdk3_1 HB GE164 GE165)⟩⟩
  case round =>
   clear H'
   obtain ⟨x12_1, rfl, HA, HK1, HO_165000, HO_165001, BK164, BK165, HB⟩ := hrel
   cases gk with
   | zero => exact absurd HA.out (by simp [spec_l7Put.l0])
   | succ k1 =>
    have H := HA.out
    clear HA
    simp only [spec_l7Put.l0] at H
    by_cases c36 : x12_1 ≤ (wrap64 (3 * t172))
    ·rw [if_pos c36] at H
     have c36b0 : decide (x12_1 ≤ (wrap64 (3 * t172))) = true := decide_eq_true c36
     clear c36
     have H' := Aside0.mk H
     clear H
     have hnb37 := NB164_165.out
     have hnc37 := NB165_164.out
     have hcz38_0 : wr.cell? ⟨gb164, 0, none⟩ = some (.slice Ao31 t166.length co31) := (blk_cell BK164.out 0).trans rfl
     have hcz38_1 : wr.cell? ⟨gb164, 1, none⟩ = some (.slice Ao33 t169.length co33) := (blk_cell BK164.out 1).trans rfl
     have hcz38_2 : wr.cell? ⟨gb164, 2, none⟩ = some (.int .i64 t172) := (blk_cell BK164.out 2).trans rfl
     have hfz38_0 := blk_frozen BK164.out 0
     have hfz38_1 := blk_frozen BK164.out 1
     have hfz38_2 := blk_frozen BK164.out 2
     go_wp2
     go_roundg k1
     case measure => have := HK1.out; omega
     case rel => exact ⟨(wrap64 (x12_1 * 2)), (by first | rfl | (simp; done) | (simp [*]; done)), H', ⟨(by have := HK1.out; omega)⟩, ⟨(rdk3_3 HO_165000)⟩, ⟨(rdk3_3 HO_165001)⟩, ⟨(rdk3_2 BK164)⟩, ⟨(rdk3_2 BK165)⟩, ⟨(rdk3_1 HB GE164 GE165)⟩⟩
    rw [if_neg c36] at H
    have c36b0 : decide (x12_1 ≤ (wrap64 (3 * t172))) = false := decide_eq_false c36
    clear c36
    by_cases c39 : x12_1 > 65536
    ·rw [if_pos c39] at H
     have c39b0 : decide (65536 < x12_1) = true := decide_eq_true c39
     clear c39
     simp only [Option.some.injEq, Prod.mk.injEq] at H
     obtain ⟨rfl, rfl, rfl, rfl⟩ := H
     have hnb40 := NB164_165.out
     have hnc40 := NB165_164.out
     have hcz41_0 : wr.cell? ⟨gb164, 0, none⟩ = some (.slice Ao31 t166.length co31) := (blk_cell BK164.out 0).trans rfl
     have hcz41_1 : wr.cell? ⟨gb164, 1, none⟩ = some (.slice Ao33 t169.length co33) := (blk_cell BK164.out 1).trans rfl
     have hcz41_2 : wr.cell? ⟨gb164, 2, none⟩ = some (.int .i64 t172) := (blk_cell BK164.out 2).trans rfl
     have hfz41_0 := blk_frozen BK164.out 0
     have hfz41_1 := blk_frozen BK164.out 1
     have hfz41_2 := blk_frozen BK164.out 2
     have hcz42_0 : wr.cell? ⟨gb165, 0, none⟩ = some (.slice none 0 0) := (blk_cell BK165.out 0).trans rfl
     have hcz42_1 : wr.cell? ⟨gb165, 1, none⟩ = some (.slice none 0 0) := (blk_cell BK165.out 1).trans rfl
     have hcz42_2 : wr.cell? ⟨gb165, 2, none⟩ = some (.int .i64 0) := (blk_cell BK165.out 2).trans rfl
     have hfz42_0 := blk_frozen BK165.out 0
     have hfz42_1 := blk_frozen BK165.out 1
     have hfz42_2 := blk_frozen BK165.out 2
     go_wp2
     refine bodyPost_ret (results_ct rfl _ _ gb165 25 #[.slice Ao31 t166.length co31, .slice Ao33 t169.length co33, .int .i64 t172] (0, 0) _ rfl (by (with_reducible repeat (first | refine blk_drewN ?_ _ | refine blk_drew ?_ | refine blk_alloc ?_ _)); refine blk_put (cs := #[.slice Ao31 t166.length co31, .slice Ao33 t169.length co33, .int .i64 0]) ?_ 2 _ rfl; (with_reducible repeat (first | refine blk_drewN ?_ _ | refine blk_drew ?_ | refine blk_alloc ?_ _)); refine blk_put (cs := #[.slice Ao31 t166.length co31, .slice none 0 0, .int .i64 0]) ?_ 1 _ rfl; (with_reducible repeat (first | refine blk_drewN ?_ _ | refine blk_drew ?_ | refine blk_alloc ?_ _)); refine blk_put (cs := #[.slice none 0 0, .slice none 0 0, .int .i64 0]) ?_ 0 _ rfl; (with_reducible repeat (first | refine blk_drewN ?_ _ | refine blk_drew ?_ | refine blk_alloc ?_ _)); exact BK165.out) Try.underlying25 rfl qdk3_13) rfl ?_
     exact ⟨_, _, rdk3_8, (rdk3_7 HO_165000 BK165), (rdk3_7 HO_165001 BK165), (rdk3_1 HB GE164 GE165)⟩
    rw [if_neg c39] at H
    have c39b0 : decide (65536 < x12_1) = false := decide_eq_false c39
    clear c39
    obtain ⟨y176, hy176⟩ : ∃ y_ : List (S62), y_ = (([] : List (S62))) := ⟨_, rfl⟩
    replace H : (spec_l7Put.l1 k1 a1 a2 a3 x12_1 y176 0 t166 t169 t172) = some (r1, r2, r3, r4) := by first | (rw [hy176]; with_reducible exact H) | (have H2_ := (Option.bind_some _ _).symm.trans H; rw [hy176]; with_reducible exact H2_) | (have H2_ := (Option.bind_some _ _).symm.trans H; with_reducible exact H2_) | with_reducible exact H | (rw [hy176]; exact H) | exact H
    have Ny176 := Aside0.mk hy176
    clear hy176
    have H' := Aside0.mk H
    clear H
    have hnb43 := NB164_165.out
    have hnc43 := NB165_164.out
    have hcz44_0 : wr.cell? ⟨gb164, 0, none⟩ = some (.slice Ao31 t166.length co31) := (blk_cell BK164.out 0).trans rfl
    have hcz44_1 : wr.cell? ⟨gb164, 1, none⟩ = some (.slice Ao33 t169.length co33) := (blk_cell BK164.out 1).trans rfl
    have hcz44_2 : wr.cell? ⟨gb164, 2, none⟩ = some (.int .i64 t172) := (blk_cell BK164.out 2).trans rfl
    have hfz44_0 := blk_frozen BK164.out 0
    have hfz44_1 := blk_frozen BK164.out 1
    have hfz44_2 := blk_frozen BK164.out 2
    go_wp2_with (first | ((with_reducible refine gate_dst (N := 54) rfl ?_); refine Kd.R_lit k62 _ 62 ?hg (N := 54) ?hd (xs := ([] : List (S62))) (inner := []) (ok := fun _ => True) (okp := fun _ => True) ?hr ?hp (fun _ hk => hk) trivial (Below.refl _ _) (Nat.le_refl _) (by simp) ?_; (case hd => rfl); (case hg => rfl); (case hr => exact qdk3_14); (case hp => exact (Reps.none _ _)); intro v177 w45 ho46 hb hg_ hnew_; clear hg_ hnew_; (first | rw [← Ny176.out] at ho46 | (simp only [Int.reduceToNat] at ho46; rw [← Ny176.out] at ho46)); have n0_ := Aside0.mk (Kd.R_below (qdk3_3 HO_165000) hb); have n1_ := Aside0.mk (Kd.R_elder' (qdk3_3 HO_165001) (Kd.R_base ho46) hb); have n2_ := Aside0.mk (Kd.R_lower (Kd.R_new' ho46 (Kd.R_lt (qdk3_3 HO_165001))) (below_size (qdk3_1 HB GE164 GE165))); have n3_ := Aside0.mk (blk_below (qdk3_2 BK164) hb); have n4_ := Aside0.mk (blk_below (qdk3_2 BK165) hb); have n5_ := Aside0.mk (below_step (qdk3_1 HB GE164 GE165) hb); clear HO_165000 HO_165001 BK164 BK165 HB; have HO_165000 := n0_; have HO_165001 := n1_; have HO178 := n2_; have BK164 := n3_; have BK165 := n4_; have HB := n5_; clear n0_ n1_ n2_ n3_ n4_ n5_; clear hb ho46))
    go_loopg [13, 14] k1 (fun kq v13 v14 w' => ∃ (x13_2 : List (S62)) (x14_2 : Int), v14 = .int .i64 x14_2 ∧ Aside0 (spec_l7Put.l1 kq a1 a2 a3 x12_1 x13_2 x14_2 t166 t169 t172 = some (r1, r2, r3, r4)) ∧ Aside0 (kq ≤ k1) ∧ Aside0 (Kd.R k62 62 w' w.heap.size (fun k_ => some k_ ≠ ((.slice Ao33 t169.length co33) : Value).ownBlock) v13 x13_2) ∧ Aside0 (Kd.R (Kd.int .i64) 2 w' w.heap.size (fun _ => True) (.slice Ao31 t166.length co31) t166) ∧ Aside0 (Kd.R k62 62 w' w.heap.size (fun k_ => some k_ ≠ (v13 : Value).ownBlock) (.slice Ao33 t169.length co33) t169) ∧ Aside0 (w'.heap[gb164]? = some (.cells #[(.slice Ao31 t166.length co31), (.slice Ao33 t169.length co33), .int .i64 t172] 25 (0, 0))) ∧ Aside0 (w'.heap[gb165]? = some (.cells #[(.slice none 0 0), (.slice none 0 0), .int .i64 0] 25 (0, 0))) ∧ Aside0 (Below w.heap.size w w'))
    case atStart => exact ⟨(y176), (0), (by first | rfl | (simp; done) | (simp [*]; done)), H', ⟨Nat.le_refl _⟩, ⟨(rdk3_9 HO178)⟩, ⟨(rdk3_3 HO_165000)⟩, ⟨(rdk3_9 HO_165001)⟩, ⟨(rdk3_2 BK164)⟩, ⟨(rdk3_2 BK165)⟩, ⟨(rdk3_1 HB GE164 GE165)⟩⟩
    case round =>
     clear H'
     obtain ⟨x13_2, x14_2, rfl, HA, HK2, HO_13, HO_165000, HO_165001, BK164, BK165, HB⟩ := hrel
     cases gk with
     | zero => exact absurd HA.out (by simp [spec_l7Put.l1])
     | succ k2 =>
      have H := HA.out
      clear HA
      simp only [spec_l7Put.l1] at H
      by_cases c47 : x14_2 < (t169.length : Int)
      ·rw [if_pos c47] at H
       have c47b0 : decide (x14_2 < (t169.length : Int)) = true := decide_eq_true c47
       clear c47
       by_cases c48 : 0 ≤ x14_2
       ·rw [if_pos c48] at H
        have c48b0 : decide (0 ≤ x14_2) = true := decide_eq_true c48
        clear c48
        obtain ⟨bq49, hbq49⟩ : ∃ b_ : Bool, b_ = ((rd_T62 t169 x14_2).f3) := ⟨_, rfl⟩
        replace H : (if (bq49 = true) then (spec_l7Put.l1 k2 a1 a2 a3 x12_1 x13_2 (wrap64 (x14_2 + 1)) t166 t169 t172) else (if x13_2.length < 4398046511104 then (spec_l7Put.l1 k2 a1 a2 a3 x12_1 (x13_2 ++ [(⟨(rd_T62 t169 x14_2).f0, (rd_T62 t169 x14_2).f1, (rd_T62 t169 x14_2).f2, bq49⟩ : S62)]) (wrap64 (x14_2 + 1)) t166 t169 t172) else (none))) = some (r1, r2, r3, r4) := by rw [← hbq49] at H; exact H
        have Nbq49 := Aside0.mk hbq49
        clear hbq49
        by_cases c50 : (bq49 = true)
        ·subst c50
         have H1 : (spec_l7Put.l1 k2 a1 a2 a3 x12_1 x13_2 (wrap64 (x14_2 + 1)) t166 t169 t172) = some (r1, r2, r3, r4) := by rw [if_pos rfl] at H; exact H
         clear H
         have H := H1
         clear H1
         have H' := Aside0.mk H
         clear H
         have hnb51 := NB164_165.out
         have hnc51 := NB165_164.out
         have hcz52_0 : wr.cell? ⟨gb164, 0, none⟩ = some (.slice Ao31 t166.length co31) := (blk_cell BK164.out 0).trans rfl
         have hcz52_1 : wr.cell? ⟨gb164, 1, none⟩ = some (.slice Ao33 t169.length co33) := (blk_cell BK164.out 1).trans rfl
         have hcz52_2 : wr.cell? ⟨gb164, 2, none⟩ = some (.int .i64 t172) := (blk_cell BK164.out 2).trans rfl
         have hfz52_0 := blk_frozen BK164.out 0
         have hfz52_1 := blk_frozen BK164.out 1
         have hfz52_2 := blk_frozen BK164.out 2
         have p179 : 0 ≤ (x14_2 : Int) := of_decide_eq_true qdk3_12
         have q179 : x14_2 < (t169.length : Int) := of_decide_eq_true qdk3_12
         obtain ⟨ad179, e179, hx179_0, hx179_1, hx179_2, hx179_3⟩ := at_T62 (Kd.R_reads' HO_165001.out).2.2 x14_2 p179 q179
         (try rw [← Nbq49.out] at hx179_3)
         (try rw [← Nbq49.out] at hw179_3)
         cases e179
         replace p179 := eq_true p179
         replace q179 := eq_true q179
         go_wp2
         go_roundg k2
         case measure => have := HK1.out; have := HK2.out; omega
         case rel => exact ⟨(x13_2), (wrap64 (x14_2 + 1)), (by first | rfl | (simp; done) | (simp [*]; done)), H', ⟨(by have := HK1.out; have := HK2.out; omega)⟩, ⟨(rdk3_3 HO_13)⟩, ⟨(rdk3_3 HO_165000)⟩, ⟨(rdk3_3 HO_165001)⟩, ⟨(rdk3_2 BK164)⟩, ⟨(rdk3_2 BK165)⟩, ⟨(rdk3_1 HB GE164 GE165)⟩⟩
        replace c50 := Bool.eq_false_iff.mpr c50
        subst c50
        have H1 : (if x13_2.length < 4398046511104 then (spec_l7Put.l1 k2 a1 a2 a3 x12_1 (x13_2 ++ [(⟨(rd_T62 t169 x14_2).f0, (rd_T62 t169 x14_2).f1, (rd_T62 t169 x14_2).f2, false⟩ : S62)]) (wrap64 (x14_2 + 1)) t166 t169 t172) else (none)) = some (r1, r2, r3, r4) := by rw [if_neg (show ¬ (false = true) by decide)] at H; exact H
        clear H
        have H := H1
        clear H1
        by_cases c53 : x13_2.length < 4398046511104
        ·rw [if_pos c53] at H
         have LMc53 := Aside0.mk c53
         clear c53
         obtain ⟨y181, hy181⟩ : ∃ y_ : List (S62), y_ = (x13_2 ++ [(⟨(rd_T62 t169 x14_2).f0, (rd_T62 t169 x14_2).f1, (rd_T62 t169 x14_2).f2, false⟩ : S62)]) := ⟨_, rfl⟩
         replace H : (spec_l7Put.l1 k2 a1 a2 a3 x12_1 y181 (wrap64 (x14_2 + 1)) t166 t169 t172) = some (r1, r2, r3, r4) := by first | (rw [hy181]; with_reducible exact H) | (have H2_ := (Option.bind_some _ _).symm.trans H; rw [hy181]; with_reducible exact H2_) | (have H2_ := (Option.bind_some _ _).symm.trans H; with_reducible exact H2_) | with_reducible exact H | (rw [hy181]; exact H) | exact H
         have Ny181 := Aside0.mk hy181
         clear hy181
         have H' := Aside0.mk H
         clear H
         have hnb54 := NB164_165.out
         have hnc54 := NB165_164.out
         have hcz55_0 : wr.cell? ⟨gb164, 0, none⟩ = some (.slice Ao31 t166.length co31) := (blk_cell BK164.out 0).trans rfl
         have hcz55_1 : wr.cell? ⟨gb164, 1, none⟩ = some (.slice Ao33 t169.length co33) := (blk_cell BK164.out 1).trans rfl
         have hcz55_2 : wr.cell? ⟨gb164, 2, none⟩ = some (.int .i64 t172) := (blk_cell BK164.out 2).trans rfl
         have hfz55_0 := blk_frozen BK164.out 0
         have hfz55_1 := blk_frozen BK164.out 1
         have hfz55_2 := blk_frozen BK164.out 2
         have p179 : 0 ≤ (x14_2 : Int) := of_decide_eq_true qdk3_12
         have q179 : x14_2 < (t169.length : Int) := of_decide_eq_true qdk3_12
         obtain ⟨ad179, e179, hx179_0, hx179_1, hx179_2, hx179_3⟩ := at_T62 (Kd.R_reads' HO_165001.out).2.2 x14_2 p179 q179
         (try rw [← Nbq49.out] at hx179_3)
         (try rw [← Nbq49.out] at hw179_3)
         cases e179
         replace p179 := eq_true p179
         replace q179 := eq_true q179
         have p180 : 0 ≤ (x14_2 : Int) := of_decide_eq_true qdk3_12
         have q180 : x14_2 < (t169.length : Int) := of_decide_eq_true qdk3_12
         obtain ⟨ad180, e180, hx180_0, hx180_1, hx180_2, hx180_3⟩ := at_T62 (Kd.R_reads' HO_165001.out).2.2 x14_2 p180 q180
         (try rw [← Nbq49.out] at hx180_3)
         (try rw [← Nbq49.out] at hw180_3)
         obtain rfl : ad179 = ad180 := (by injection e180)
         replace p180 := eq_true p180
         replace q180 := eq_true q180
         go_wp2_with (first | ((with_reducible refine gate_builtin (b := .append) (xs := #[.tmp 69, .tmp 75]) rfl ?_); at_builtin; refine Kd.R_append k62 (w0 := w) w.heap.size rfl (.tmp 69) (.tmp 75) 23 62 (.agg #[(.int .u64 0), (.int .i64 0), (.int .i64 0), (.bool false)]) 32 rfl Try.underlying23 info62 rfl (by decide) (by omega) u13 x13_2 (⟨(rd_T62 t169 x14_2).f0, (rd_T62 t169 x14_2).f1, (rd_T62 t169 x14_2).f2, false⟩ : S62) [.int .u64 ((rd_T62 t169 x14_2).f0), .int .i64 ((rd_T62 t169 x14_2).f1), .int .i64 ((rd_T62 t169 x14_2).f2), .bool false] (fun k_ => some k_ ≠ (.slice (some ad179) t169.length co33 : Value).ownBlock) (fun _ => False) rfl rfl ?aP (fun _ hk => hk.elim) ?aF ?aO ?aB ?aS ?aL ?_; (case aP => exact k62_mkM _ _ _ (⟨(rd_T62 t169 x14_2).f0, (rd_T62 t169 x14_2).f1, (rd_T62 t169 x14_2).f2, false⟩ : S62)); (case aB => exact (qdk3_1 HB GE164 GE165)); (case aF => exact (fun k_ hk => Kd.fresh' (Kd.R_lt (qdk3_3 HO_165001)) k_ hk)); (case aO => exact (qdk3_3 HO_13)); (case aS => exact (below_size (qdk3_1 HB GE164 GE165))); (case aL => have := LMc53.out; omega); intro v182 w56 ho hb hg hat; rw [← Ny181.out] at ho; have n0_ := Aside0.mk (Kd.R_over' (qdk3_3 HO_165000) (Kd.R_typed (qdk3_3 HO_13)) (by decide) hg); have n1_ := Aside0.mk (Kd.R_after (ok := (fun _ => True)) (by (with_reducible repeat (first | apply Kd.R_alloc | apply Kd.R_drewN | apply Kd.R_drew)); exact Kd.R_mono HO_165001.out (fun _ hk => ⟨trivial, hk⟩)) hg hat); have n2_ := Aside0.mk (blk_grown (g := gb164) (o := .cells #[.slice Ao31 t166.length co31, .slice (some ad179) t169.length co33, .int .i64 t172] 25 (0, 0)) (qdk3_2 BK164) hg (Kd.R_ne HO_13.out BK164.out (by decide))); have n3_ := Aside0.mk (blk_grown (g := gb165) (o := .cells #[.slice none 0 0, .slice none 0 0, .int .i64 0] 25 (0, 0)) (qdk3_2 BK165) hg (Kd.R_ne HO_13.out BK165.out (by decide))); have n4_ := Aside0.mk (hb); have n5_ := Aside0.mk (ho); clear HO_165000 HO_165001 BK164 BK165 HB HO_13; have HO_165000 := n0_; have HO_165001 := n1_; have BK164 := n2_; have BK165 := n3_; have HB := n4_; have HO183 := n5_; clear n0_ n1_ n2_ n3_ n4_ n5_; clear ho hb hg hat))
         go_roundg k2
         case measure => have := HK1.out; have := HK2.out; omega
         case rel => exact ⟨(y181), (wrap64 (x14_2 + 1)), (by first | rfl | (simp; done) | (simp [*]; done)), H', ⟨(by have := HK1.out; have := HK2.out; omega)⟩, ⟨(rdk3_3 HO183)⟩, ⟨(rdk3_3 HO_165000)⟩, ⟨(rdk3_9 HO_165001)⟩, ⟨(rdk3_2 BK164)⟩, ⟨(rdk3_2 BK165)⟩, ⟨(rdk3_1 HB GE164 GE165)⟩⟩
        rw [if_neg c53] at H
        exact absurd H (by simp)
       rw [if_neg c48] at H
       exact absurd H (by simp)
      rw [if_neg c47] at H
      have c47b0 : decide (x14_2 < (t169.length : Int)) = false := decide_eq_false c47
      clear c47
      by_cases c57 : x13_2.length < 4398046511104
      ·rw [if_pos c57] at H
       have LMc57 := Aside0.mk c57
       clear c57
       obtain ⟨y184, hy184⟩ : ∃ y_ : List (S62), y_ = (x13_2 ++ [(⟨a1, a2, a3, false⟩ : S62)]) := ⟨_, rfl⟩
       replace H : ((spec_l7Table.f k2 y184 x12_1).bind fun t187 => (some (t187, y184, wrap64 (t172 + 1), true))) = some (r1, r2, r3, r4) := by first | (rw [hy184]; with_reducible exact H) | (have H2_ := (Option.bind_some _ _).symm.trans H; rw [hy184]; with_reducible exact H2_) | (have H2_ := (Option.bind_some _ _).symm.trans H; with_reducible exact H2_) | with_reducible exact H | (rw [hy184]; exact H) | exact H
       have Ny184 := Aside0.mk hy184
       clear hy184
       replace H := Option.bind_eq_some_iff.mp H
       obtain ⟨t187, A580, H⟩ := H
       replace H : (some (t187, y184, wrap64 (t172 + 1), true)) = some (r1, r2, r3, r4) := H
       have A58 := Aside0.mk A580
       clear A580
       simp only [Option.some.injEq, Prod.mk.injEq] at H
       obtain ⟨rfl, rfl, rfl, rfl⟩ := H
       have hnb59 := NB164_165.out
       have hnc59 := NB165_164.out
       have hcz60_0 : wr.cell? ⟨gb164, 0, none⟩ = some (.slice Ao31 t166.length co31) := (blk_cell BK164.out 0).trans rfl
       have hcz60_1 : wr.cell? ⟨gb164, 1, none⟩ = some (.slice Ao33 t169.length co33) := (blk_cell BK164.out 1).trans rfl
       have hcz60_2 : wr.cell? ⟨gb164, 2, none⟩ = some (.int .i64 t172) := (blk_cell BK164.out 2).trans rfl
       have hfz60_0 := blk_frozen BK164.out 0
       have hfz60_1 := blk_frozen BK164.out 1
       have hfz60_2 := blk_frozen BK164.out 2
       try go_wp2_with (first | ((with_reducible refine gate_builtin (b := .append) (xs := #[.tmp 77, .tmp 82]) rfl ?_); at_builtin; refine Kd.R_append k62 (w0 := w) w.heap.size rfl (.tmp 77) (.tmp 82) 23 62 (.agg #[(.int .u64 0), (.int .i64 0), (.int .i64 0), (.bool false)]) 32 rfl Try.underlying23 info62 rfl (by decide) (by omega) u13 x13_2 (⟨a1, a2, a3, false⟩ : S62) [.int .u64 a1, .int .i64 a2, .int .i64 a3, .bool false] (fun k_ => some k_ ≠ (.slice Ao33 t169.length co33 : Value).ownBlock) (fun _ => False) rfl rfl ?aP (fun _ hk => hk.elim) ?aF ?aO ?aB ?aS ?aL ?_; (case aP => exact k62_mkM _ _ _ (⟨a1, a2, a3, false⟩ : S62)); (case aB => exact (qdk3_1 HB GE164 GE165)); (case aF => exact (fun k_ hk => Kd.fresh' (Kd.R_lt (qdk3_3 HO_165001)) k_ hk)); (case aO => exact (qdk3_3 HO_13)); (case aS => exact (below_size (qdk3_1 HB GE164 GE165))); (case aL => have := LMc57.out; omega); intro v185 w61 ho hb hg hat; rw [← Ny184.out] at ho; have n0_ := Aside0.mk (Kd.R_over' (qdk3_3 HO_165000) (Kd.R_typed (qdk3_3 HO_13)) (by decide) hg); have n1_ := Aside0.mk (Kd.R_after (ok := (fun _ => True)) (by (with_reducible repeat (first | apply Kd.R_alloc | apply Kd.R_drewN | apply Kd.R_drew)); exact Kd.R_mono HO_165001.out (fun _ hk => ⟨trivial, hk⟩)) hg hat); have n2_ := Aside0.mk (blk_grown (g := gb164) (o := .cells #[.slice Ao31 t166.length co31, .slice Ao33 t169.length co33, .int .i64 t172] 25 (0, 0)) (qdk3_2 BK164) hg (Kd.R_ne HO_13.out BK164.out (by decide))); have n3_ := Aside0.mk (blk_grown (g := gb165) (o := .cells #[.slice none 0 0, .slice none 0 0, .int .i64 0] 25 (0, 0)) (qdk3_2 BK165) hg (Kd.R_ne HO_13.out BK165.out (by decide))); have n4_ := Aside0.mk (hb); have n5_ := Aside0.mk (ho); clear HO_165000 HO_165001 BK164 BK165 HB HO_13; have HO_165000 := n0_; have HO_165001 := n1_; have BK164 := n2_; have BK165 := n3_; have HB := n4_; have HO186 := n5_; clear n0_ n1_ n2_ n3_ n4_ n5_; clear ho hb hg hat))
       have n0_ := Aside0.mk (Kd.R_drew HO_165000.out)
       have n1_ := Aside0.mk (Kd.R_drew HO_165001.out)
       have n2_ := Aside0.mk (Kd.R_drew HO186.out)
       have n3_ := Aside0.mk (blk_drew BK164.out)
       have n4_ := Aside0.mk (blk_drew BK165.out)
       have n5_ := Aside0.mk (below_drew1 HB.out)
       clear HO_165000 HO_165001 HO186 BK164 BK165 HB
       have HO_165000 := n0_
       have HO_165001 := n1_
       have HO186 := n2_
       have BK164 := n3_
       have BK165 := n4_
       have HB := n5_
       clear n0_ n1_ n2_ n3_ n4_ n5_
       obtain ⟨Ao63, co63, eo63⟩ := Kd.R_slice HO186.out
       (first | subst eo63 | (injection eo63 with f1_ f2_ f3_; have f4_ := f1_.symm; have f5_ := f3_.symm; clear f1_ f2_ f3_; subst f4_; subst f5_))
       refine start_ (n := 10) (S := fun w' => w'.cell? ⟨gb164, 0, none⟩ = some (.slice Ao31 t166.length co31) ∧ w'.cell? ⟨gb164, 1, none⟩ = some (.slice Ao33 t169.length co33) ∧ w'.cell? ⟨gb164, 2, none⟩ = some (.int .i64 t172)) (ds := []) (bs_ 10 0) qdk3_13 rfl rfl ⟨(blk_cell BK164.out 0).trans rfl, (blk_cell BK164.out 1).trans rfl, (blk_cell BK164.out 2).trans rfl⟩ (fun hHeld => ?_); refine with_tabW spec_l7Put.tab21 spec_l7Put.bits21 (fun HT_ HW_ => ?_)
       generalize w61.drew = w62 at HO_165000 HO_165001 HO186 BK164 BK165 HB hHeld ⊢
       refine pure_ (i := 0) (N := some 84) (bs_ 10 1) rfl rfl (any_of HT_.out qdk3_13) (fun _ _ _ h => h) (Or.inl ⟨by rfl, qpy_pdkx3⟩) qpa_pdkx3 ?_
       refine pure_ (i := 1) (N := some 85) (bs_ 10 3) rfl rfl (any_of HT_.out qdk3_13) (fun _ _ _ h => h) (Or.inl ⟨by rfl, qpy_pdkx3⟩) qpa_pdkx3 ?_
       refine pure_ (i := 3) (N := some 87) (bs_ 10 11) rfl rfl (any_of HT_.out qdk3_13) (fun _ _ _ h => h) (Or.inl ⟨by rfl, qpy_pdkx3⟩) qpa_pdkx3 ?_
       refine pure_ (i := 4) (N := some 88) (bs_ 10 27) rfl rfl (any_of HT_.out qdk3_13) (fun _ _ _ h => h) (Or.inl ⟨by rfl, qpy_pdkx3⟩) qpa_pdkx3 ?_
       refine take_ (i := 5) (N := some 89) (bs_ 10 59) rfl rfl (take_ofW HT_.out HW_.out qdk3_13) (fun _ _ _ h => h) (Or.inl ⟨by rfl, qpt3_pdkx3⟩) hHeld qpa_pdkx3 ?_
       refine pure_ (i := 6) (N := some 90) (bs_ 10 123) rfl rfl (any_of HT_.out qdk3_13) (fun _ _ _ h => h) (Or.inl ⟨by rfl, qpy_pdkx3⟩) qpa_pdkx3 ?_
       refine one_ (i := 2) (N := some 86) (bs_ 10 127) rfl rfl (one_of HT_.out qdk3_13) (by decide) (fun K hK => ?_)
       refine goes_ Try.func39 qdk3_13 rfl #[.slice Ao63 y184.length co63, .int .i64 x12_1] (by rfl) rfl rfl qdk3_9 ?_
       with_reducible refine (spec_l7Table.calls k2 _ _ y184 x12_1 t187 _ ?side1 ?side2 A58.out).mono ?_
       (case side1 => exact (by repeat (first | exact (Kd.R_reads' HO186.out).2.2 | (with_reducible refine Kd.C_alloc ?_ _) | (with_reducible refine Kd.C_drewN ?_ _) | (with_reducible refine Kd.C_drew ?_))))
       (case side2 => exact (Kd.R_reads' HO186.out).2.1)
       rintro e w64 ⟨v188, rfl, ho0, hb⟩
       refine ⟨_, rfl, ?_⟩
       have n0_ := Aside0.mk (Kd.R_elder' (qdk3_3 HO_165000) (Kd.R_base ho0) hb)
       have n1_ := Aside0.mk (Kd.R_below (qdk3_3 HO_165001) hb)
       have n2_ := Aside0.mk (Kd.R_below (qdk3_3 HO186) hb)
       have n3_ := Aside0.mk (Kd.R_lower (Kd.R_new' ho0 (Kd.R_lt (qdk3_3 HO_165000))) (below_size (qdk3_1 HB GE164 GE165)))
       have n4_ := Aside0.mk (blk_below (qdk3_2 BK164) hb)
       have n5_ := Aside0.mk (blk_below (qdk3_2 BK165) hb)
       have n6_ := Aside0.mk (below_step (qdk3_1 HB GE164 GE165) hb)
       clear HO_165000 HO_165001 HO186 BK164 BK165 HB
       have HO_165000 := n0_
       have HO_165001 := n1_
       have HO186 := n2_
       have HO189 := n3_
       have BK164 := n4_
       have BK165 := n5_
       have HB := n6_
       clear n0_ n1_ n2_ n3_ n4_ n5_ n6_
       (try clear hb)
       (try clear hb2)
       (try clear hk)
       (try clear hi)
       (try clear ho0)
       obtain ⟨Ao65, co65, eo65⟩ := Kd.R_slice HO189.out
       (first | subst eo65 | (injection eo65 with f1_ f2_ f3_; have f4_ := f1_.symm; have f5_ := f3_.symm; clear f1_ f2_ f3_; subst f4_; subst f5_))
       refine hK.out _ _ ⟨(blk_cell BK164.out 0).trans rfl, (blk_cell BK164.out 1).trans rfl, (blk_cell BK164.out 2).trans rfl⟩ (fun hHeld => ?_)
       clear hK K
       refine norm_ (a' := ?_) ?_ ?_
       rotate_left
       ·show Act.put _ (some 86) _ = _
        simp only [Act.put, List.setIfInBounds_toArray, List.set_cons_zero, List.set_cons_succ, i64_w, i32_w]
        rfl
       refine pure_ (i := 7) (N := some 91) (bs_ 10 255) rfl rfl (any_of HT_.out qdk3_13) (fun _ _ _ h => h) (Or.inl ⟨by rfl, qpy_pdkx3⟩) qpa_pdkx3 ?_
       refine one_ (i := 8) (N := none) (bs_ 10 511) rfl rfl (one_of HT_.out qdk3_13) (by decide) (fun K hK => ?_)
       have hs66 : w64.cell? ⟨gb165, 0, none⟩ = some (.slice none 0 0) := (blk_cell BK165.out 0).trans rfl
       have hfs66 := blk_frozen BK165.out 0
       have hns66_0 := NB164_165.out
       have hms66_0 := NB165_164.out
       have hs67 : w64.cell? ⟨gb165, 1, none⟩ = some (.slice none 0 0) := (blk_cell BK165.out 1).trans rfl
       have hfs67 := blk_frozen BK165.out 1
       have hns67_0 := NB164_165.out
       have hms67_0 := NB165_164.out
       have hs68 : w64.cell? ⟨gb165, 2, none⟩ = some (.int .i64 0) := (blk_cell BK165.out 2).trans rfl
       have hfs68 := blk_frozen BK165.out 2
       have hns68_0 := NB164_165.out
       have hms68_0 := NB165_164.out
       refine skip_ (w1 := ?_) (by rfl) rfl ?_ ?_
       rotate_left
       ·go_simp
        rfl
       refine hK.out _ _ ⟨((cell_far (p := ⟨gb165, _, none⟩) NB164_165.out _).trans (((cell_far (p := ⟨gb165, _, none⟩) NB164_165.out _).trans (((cell_far (p := ⟨gb165, _, none⟩) NB164_165.out _).trans (hHeld.1)))))), ((cell_far (p := ⟨gb165, _, none⟩) NB164_165.out _).trans (((cell_far (p := ⟨gb165, _, none⟩) NB164_165.out _).trans (((cell_far (p := ⟨gb165, _, none⟩) NB164_165.out _).trans (hHeld.2.1)))))), ((cell_far (p := ⟨gb165, _, none⟩) NB164_165.out _).trans (((cell_far (p := ⟨gb165, _, none⟩) NB164_165.out _).trans (((cell_far (p := ⟨gb165, _, none⟩) NB164_165.out _).trans (hHeld.2.2))))))⟩ (fun hHeld => ?_)
       clear hK K
       refine pure_ (i := 9) (N := some 9) (bs_ 10 1023) rfl rfl (any_of HT_.out qdk3_13) (fun _ _ _ h => h) (Or.inl ⟨by rfl, qpy_pdkx3⟩) qpa_pdkx3 ?_
       refine done_ (done_of HT_.out qdk3_13) ?_
       try go_wp2
       refine bodyPost_ret (results_ct rfl _ _ gb165 25 #[.slice Ao65 t187.length co65, .slice Ao63 y184.length co63, .int .i64 (wrap64 (t172 + 1))] (0, 0) _ rfl (by (with_reducible repeat (first | refine blk_drewN ?_ _ | refine blk_drew ?_ | refine blk_alloc ?_ _)); refine blk_put (cs := #[.slice Ao65 t187.length co65, .slice Ao63 y184.length co63, .int .i64 0]) ?_ 2 _ rfl; (with_reducible repeat (first | refine blk_drewN ?_ _ | refine blk_drew ?_ | refine blk_alloc ?_ _)); refine blk_put (cs := #[.slice Ao65 t187.length co65, .slice none 0 0, .int .i64 0]) ?_ 1 _ rfl; (with_reducible repeat (first | refine blk_drewN ?_ _ | refine blk_drew ?_ | refine blk_alloc ?_ _)); refine blk_put (cs := #[.slice none 0 0, .slice none 0 0, .int .i64 0]) ?_ 0 _ rfl; (with_reducible repeat (first | refine blk_drewN ?_ _ | refine blk_drew ?_ | refine blk_alloc ?_ _)); exact BK165.out) Try.underlying25 rfl qdk3_13) rfl ?_
       exact ⟨_, _, rdk3_8, (rdk3_5 HO189 BK165), (rdk3_5 HO186 BK165), (rdk3_1 HB GE164 GE165)⟩
      rw [if_neg c57] at H
      exact absurd H (by simp)
 rw [if_neg c25] at H
 have c25b0 : decide ((wrap64 (Int.tdiv (wrap64 ((t166.length : Int) * 2)) 3)) ≤ (t169.length : Int)) = false := decide_eq_false c25
 clear c25
 by_cases c69 : t169.length < 4398046511104
 ·rw [if_pos c69] at H
  have LMc69 := Aside0.mk c69
  clear c69
  obtain ⟨y190, hy190⟩ : ∃ y_ : List (S62), y_ = (t169 ++ [(⟨a1, a2, a3, false⟩ : S62)]) := ⟨_, rfl⟩
  replace H : ((spec_l7Table.f k y190 (t166.length : Int)).bind fun t193 => (some (t193, y190, wrap64 (t172 + 1), true))) = some (r1, r2, r3, r4) := by first | (rw [hy190]; with_reducible exact H) | (have H2_ := (Option.bind_some _ _).symm.trans H; rw [hy190]; with_reducible exact H2_) | (have H2_ := (Option.bind_some _ _).symm.trans H; with_reducible exact H2_) | with_reducible exact H | (rw [hy190]; exact H) | exact H
  have Ny190 := Aside0.mk hy190
  clear hy190
  replace H := Option.bind_eq_some_iff.mp H
  obtain ⟨t193, A700, H⟩ := H
  replace H : (some (t193, y190, wrap64 (t172 + 1), true)) = some (r1, r2, r3, r4) := H
  have A70 := Aside0.mk A700
  clear A700
  simp only [Option.some.injEq, Prod.mk.injEq] at H
  obtain ⟨rfl, rfl, rfl, rfl⟩ := H
  go_enter Try.func59, Try.ntmps59
  try go_wp2_with (first | ((with_reducible refine gate_dst (N := 4) rfl ?_); refine box_event ?hg (N := 4) ?hd (cs := #[.slice A0_0 l0_0.length c0_0, .slice A0_1 l0_1.length c0_1, .int .i64 a0_2]) (t := 25) ?hr ?_; (case hd => rfl); (case hg => rfl); (case hr => exact qdk3_14); intro gb164 hg w71 hbox hb; have n0_ := Aside0.mk (below_step (qdk3_8 HB) hb); have n1_ := Aside0.mk (hbox); have n2_ := Aside0.mk ((by rw [hg]; exact (below_size (qdk3_8 HB)) : w.heap.size ≤ gb164)); have n3_ := Aside0.mk ((by rw [hg]; exact (below_size (qdk3_8 HB)) : w.heap.size ≤ gb164)); clear HB; have HB := n0_; have BK164 := n1_; have GW164 := n2_; have GE164 := n3_; clear n0_ n1_ n2_ n3_; clear hb hbox hg) | ((with_reducible refine gate_dst (N := 8) rfl ?_); refine box_event ?hg (N := 8) ?hd (cs := #[.slice none 0 0, .slice none 0 0, .int .i64 0]) (t := 25) ?hr ?_; (case hd => rfl); (case hg => rfl); (case hr => exact qdk3_14); intro gb165 hg w72 hbox hb; have n0_ := Aside0.mk (blk_below (qdk3_2 BK164) hb); have n1_ := Aside0.mk (below_step (qdk3_7 HB GE164) hb); have n2_ := Aside0.mk (hbox); have n3_ := Aside0.mk ((by rw [hg]; exact (below_size (qdk3_7 HB GE164)) : w.heap.size ≤ gb165)); have n4_ := Aside0.mk ((by rw [hg]; exact (below_size (qdk3_7 HB GE164)) : w.heap.size ≤ gb165)); have n5_ := Aside0.mk ((qnl_pdkx3 BK164 hg : gb164 ≠ gb165)); have n6_ := Aside0.mk ((qng_pdkx3 BK164 hg : gb165 ≠ gb164)); clear BK164 HB; have BK164 := n0_; have HB := n1_; have BK165 := n2_; have GW165 := n3_; have GE165 := n4_; have NB164_165 := n5_; have NB165_164 := n6_; clear n0_ n1_ n2_ n3_ n4_ n5_ n6_; clear hb hbox hg; have hnb73 := NB164_165.out; have hnc73 := NB165_164.out; have hcz74_0 : w72.cell? ⟨gb164, 0, none⟩ = some (.slice A0_0 l0_0.length c0_0) := (blk_cell BK164.out 0).trans rfl; have hcz74_1 : w72.cell? ⟨gb164, 1, none⟩ = some (.slice A0_1 l0_1.length c0_1) := (blk_cell BK164.out 1).trans rfl; have hcz74_2 : w72.cell? ⟨gb164, 2, none⟩ = some (.int .i64 a0_2) := (blk_cell BK164.out 2).trans rfl; have hfz74_0 := blk_frozen BK164.out 0; have hfz74_1 := blk_frozen BK164.out 1; have hfz74_2 := blk_frozen BK164.out 2) | ((with_reducible refine gate_callee (f := 74) rfl ?_); refine goesL_ (some 16) rfl rfl Try.func74 qdk3_13 rfl #[.agg #[.slice A0_0 l0_0.length c0_0, .slice A0_1 l0_1.length c0_1, .int .i64 a0_2]] rfl qdk3_9 ?_; (with_reducible refine (spec_l7Copy.calls _ _ l0_0 _ _ l0_1 a0_2 t166 t169 t172 _ ?side1 ?side2 ?side3 ?side4 A5.out).mono ?_); (case side1 => exact (qdk3_11 HR0_0 HB)); (case side2 => exact HC0_0.out); (case side3 => exact (qdk3_11 HR0_1 HB)); (case side4 => exact HC0_1.out); rintro e w75 ⟨v167, v170, rfl, ho0, ho1, hb⟩; refine ⟨_, rfl, ?_⟩; have n0_ := Aside0.mk (Kd.R_lower ho0 (below_size (qdk3_1 HB GE164 GE165))); have n1_ := Aside0.mk (Kd.R_lower ho1 (below_size (qdk3_1 HB GE164 GE165))); have n2_ := Aside0.mk (blk_below (qdk3_2 BK164) hb); have n3_ := Aside0.mk (blk_below (qdk3_2 BK165) hb); have n4_ := Aside0.mk (below_step (qdk3_1 HB GE164 GE165) hb); clear BK164 BK165 HB; have HO168 := n0_; have HO171 := n1_; have BK164 := n2_; have BK165 := n3_; have HB := n4_; clear n0_ n1_ n2_ n3_ n4_; (try clear hb); (try clear hb2); (try clear hk); (try clear hi); (try clear ho0); (try clear ho1); obtain ⟨Ao76, co76, eo76⟩ := Kd.R_slice HO168.out; subst eo76; have hcz77_0 : w75.cell? ⟨gb164, 0, none⟩ = some (.slice A0_0 l0_0.length c0_0) := (blk_cell BK164.out 0).trans rfl; have hcz77_1 : w75.cell? ⟨gb164, 1, none⟩ = some (.slice A0_1 l0_1.length c0_1) := (blk_cell BK164.out 1).trans rfl; have hcz77_2 : w75.cell? ⟨gb164, 2, none⟩ = some (.int .i64 a0_2) := (blk_cell BK164.out 2).trans rfl; have hfz77_0 := blk_frozen BK164.out 0; have hfz77_1 := blk_frozen BK164.out 1; have hfz77_2 := blk_frozen BK164.out 2; obtain ⟨Ao78, co78, eo78⟩ := Kd.R_slice HO171.out; subst eo78) | ((with_reducible refine gate_callee (f := 55) rfl ?_); refine goesL_ (some 21) rfl rfl Try.func55 qdk3_13 rfl #[.agg #[.slice Ao76 t166.length co76, .slice Ao78 t169.length co78, .int .i64 t172], .int .u64 a1, .int .i64 a2] rfl qdk3_9 ?_; (with_reducible refine (spec_l7Find.calls k _ _ t166 _ _ t169 t172 a1 a2 t173 t174 _ ?side1 ?side2 ?side3 ?side4 A6.out).mono ?_); (case side1 => exact (by refine (Kd.R_reads' (e := 2) (base := w.heap.size) (ok := fun k_ => True) (n := t166.length) (c := co76) ?_).2.2; exact (qdk3_6 HO168 BK164))); (case side2 => exact (Kd.R_reads' HO168.out).2.1); (case side3 => exact (by refine (Kd.R_reads' (e := 62) (base := w.heap.size) (ok := fun k_ => True) (n := t169.length) (c := co78) ?_).2.2; exact (qdk3_6 HO171 BK164))); (case side4 => exact (Kd.R_reads' HO171.out).2.1); rintro e w79 ⟨rfl, hb⟩; refine ⟨_, rfl, ?_⟩; have n0_ := Aside0.mk (Kd.R_below (qdk3_6 HO168 BK164) hb); have n1_ := Aside0.mk (Kd.R_below (qdk3_6 HO171 BK164) hb); have n2_ := Aside0.mk (blk_below (g := gb164) (o := .cells #[.slice Ao76 t166.length co76, .slice Ao78 t169.length co78, .int .i64 t172] 25 (0, 0)) (by (with_reducible repeat (first | refine blk_drewN ?_ _ | refine blk_drew ?_ | refine blk_alloc ?_ _)); refine blk_put (cs := #[.slice Ao76 t166.length co76, .slice Ao78 t169.length co78, .int .i64 a0_2]) ?_ 2 _ rfl; (with_reducible repeat (first | refine blk_drewN ?_ _ | refine blk_drew ?_ | refine blk_alloc ?_ _)); refine blk_put (cs := #[.slice Ao76 t166.length co76, .slice A0_1 l0_1.length c0_1, .int .i64 a0_2]) ?_ 1 _ rfl; (with_reducible repeat (first | refine blk_drewN ?_ _ | refine blk_drew ?_ | refine blk_alloc ?_ _)); refine blk_put (cs := #[.slice A0_0 l0_0.length c0_0, .slice A0_1 l0_1.length c0_1, .int .i64 a0_2]) ?_ 0 _ rfl; (with_reducible repeat (first | refine blk_drewN ?_ _ | refine blk_drew ?_ | refine blk_alloc ?_ _)); exact BK164.out) hb); have n3_ := Aside0.mk (blk_below (g := gb165) (o := .cells #[.slice none 0 0, .slice none 0 0, .int .i64 0] 25 (0, 0)) (qdk3_10 NB165_164 BK165) hb); have n4_ := Aside0.mk (below_step (qdk3_1 HB GE164 GE165) hb); clear HO168 HO171 BK164 BK165 HB; have HO168 := n0_; have HO171 := n1_; have BK164 := n2_; have BK165 := n3_; have HB := n4_; clear n0_ n1_ n2_ n3_ n4_; (try clear hb); (try clear hb2); (try clear hk); (try clear hi); have hcz80_0 : w79.cell? ⟨gb164, 0, none⟩ = some (.slice Ao76 t166.length co76) := (blk_cell BK164.out 0).trans rfl; have hcz80_1 : w79.cell? ⟨gb164, 1, none⟩ = some (.slice Ao78 t169.length co78) := (blk_cell BK164.out 1).trans rfl; have hcz80_2 : w79.cell? ⟨gb164, 2, none⟩ = some (.int .i64 t172) := (blk_cell BK164.out 2).trans rfl; have hfz80_0 := blk_frozen BK164.out 0; have hfz80_1 := blk_frozen BK164.out 1; have hfz80_2 := blk_frozen BK164.out 2) | ((with_reducible refine gate_builtin (b := .append) (xs := #[.tmp 77, .tmp 82]) rfl ?_); at_builtin; refine Kd.R_append k62 (w0 := w) w.heap.size rfl (.tmp 77) (.tmp 82) 23 62 (.agg #[(.int .u64 0), (.int .i64 0), (.int .i64 0), (.bool false)]) 32 rfl Try.underlying23 info62 rfl (by decide) (by omega) (.slice Ao78 t169.length co78) t169 (⟨a1, a2, a3, false⟩ : S62) [.int .u64 a1, .int .i64 a2, .int .i64 a3, .bool false] (fun _ => True) (fun _ => False) rfl rfl ?aP (fun _ hk => hk.elim) ?aF ?aO ?aB ?aS ?aL ?_; (case aP => exact k62_mkM _ _ _ (⟨a1, a2, a3, false⟩ : S62)); (case aB => exact (qdk3_1 HB GE164 GE165)); (case aF => exact (fun _ _ => trivial)); (case aO => exact (qdk3_3 HO171)); (case aS => exact (below_size (qdk3_1 HB GE164 GE165))); (case aL => have := LMc69.out; omega); intro v191 w81 ho hb hg hat; rw [← Ny190.out] at ho; have n0_ := Aside0.mk (blk_grown (g := gb164) (o := .cells #[.slice Ao76 t166.length co76, .slice Ao78 t169.length co78, .int .i64 t172] 25 (0, 0)) (qdk3_2 BK164) hg (Kd.R_ne HO171.out BK164.out (by decide))); have n1_ := Aside0.mk (blk_grown (g := gb165) (o := .cells #[.slice none 0 0, .slice none 0 0, .int .i64 0] 25 (0, 0)) (qdk3_2 BK165) hg (Kd.R_ne HO171.out BK165.out (by decide))); have n2_ := Aside0.mk (Kd.R_over' (qdk3_3 HO168) (Kd.R_typed (qdk3_3 HO171)) (by decide) hg); have n3_ := Aside0.mk (hb); have n4_ := Aside0.mk (ho); clear BK164 BK165 HO168 HB HO171; have BK164 := n0_; have BK165 := n1_; have HO168 := n2_; have HB := n3_; have HO192 := n4_; clear n0_ n1_ n2_ n3_ n4_; clear ho hb hg hat))
  have n0_ := Aside0.mk (Kd.R_drew HO168.out)
  have n1_ := Aside0.mk (Kd.R_drew HO192.out)
  have n2_ := Aside0.mk (blk_drew BK164.out)
  have n3_ := Aside0.mk (blk_drew BK165.out)
  have n4_ := Aside0.mk (below_drew1 HB.out)
  clear HO168 HO192 BK164 BK165 HB
  have HO168 := n0_
  have HO192 := n1_
  have BK164 := n2_
  have BK165 := n3_
  have HB := n4_
  clear n0_ n1_ n2_ n3_ n4_
  obtain ⟨Ao83, co83, eo83⟩ := Kd.R_slice HO192.out
  (first | subst eo83 | (injection eo83 with f1_ f2_ f3_; have f4_ := f1_.symm; have f5_ := f3_.symm; clear f1_ f2_ f3_; subst f4_; subst f5_))
  refine start_ (n := 10) (S := fun w' => w'.cell? ⟨gb164, 0, none⟩ = some (.slice Ao76 t166.length co76) ∧ w'.cell? ⟨gb164, 1, none⟩ = some (.slice Ao78 t169.length co78) ∧ w'.cell? ⟨gb164, 2, none⟩ = some (.int .i64 t172)) (ds := []) (bs_ 10 0) qdk3_13 rfl rfl ⟨(blk_cell BK164.out 0).trans rfl, (blk_cell BK164.out 1).trans rfl, (blk_cell BK164.out 2).trans rfl⟩ (fun hHeld => ?_); refine with_tabW spec_l7Put.tab21 spec_l7Put.bits21 (fun HT_ HW_ => ?_)
  generalize w81.drew = w82 at HO168 HO192 BK164 BK165 HB hHeld ⊢
  refine pure_ (i := 0) (N := some 84) (bs_ 10 1) rfl rfl (any_of HT_.out qdk3_13) (fun _ _ _ h => h) (Or.inl ⟨by rfl, qpy_pdkx3⟩) qpa_pdkx3 ?_
  refine pure_ (i := 1) (N := some 85) (bs_ 10 3) rfl rfl (any_of HT_.out qdk3_13) (fun _ _ _ h => h) (Or.inl ⟨by rfl, qpy_pdkx3⟩) qpa_pdkx3 ?_
  refine pure_ (i := 3) (N := some 87) (bs_ 10 11) rfl rfl (any_of HT_.out qdk3_13) (fun _ _ _ h => h) (Or.inl ⟨by rfl, qpy_pdkx3⟩) qpa_pdkx3 ?_
  refine pure_ (i := 4) (N := some 88) (bs_ 10 27) rfl rfl (any_of HT_.out qdk3_13) (fun _ _ _ h => h) (Or.inl ⟨by rfl, qpy_pdkx3⟩) qpa_pdkx3 ?_
  refine take_ (i := 5) (N := some 89) (bs_ 10 59) rfl rfl (take_ofW HT_.out HW_.out qdk3_13) (fun _ _ _ h => h) (Or.inl ⟨by rfl, qpt3_pdkx3⟩) hHeld qpa_pdkx3 ?_
  refine pure_ (i := 6) (N := some 90) (bs_ 10 123) rfl rfl (any_of HT_.out qdk3_13) (fun _ _ _ h => h) (Or.inl ⟨by rfl, qpy_pdkx3⟩) qpa_pdkx3 ?_
  refine one_ (i := 2) (N := some 86) (bs_ 10 127) rfl rfl (one_of HT_.out qdk3_13) (by decide) (fun K hK => ?_)
  refine goes_ Try.func39 qdk3_13 rfl #[.slice Ao83 y190.length co83, .int .i64 (t166.length : Int)] (by rfl) rfl rfl qdk3_9 ?_
  with_reducible refine (spec_l7Table.calls k _ _ y190 (t166.length : Int) t193 _ ?side1 ?side2 A70.out).mono ?_
  (case side1 => exact (by repeat (first | exact (Kd.R_reads' HO192.out).2.2 | (with_reducible refine Kd.C_alloc ?_ _) | (with_reducible refine Kd.C_drewN ?_ _) | (with_reducible refine Kd.C_drew ?_))))
  (case side2 => exact (Kd.R_reads' HO192.out).2.1)
  rintro e w84 ⟨v194, rfl, ho0, hb⟩
  refine ⟨_, rfl, ?_⟩
  have n0_ := Aside0.mk (Kd.R_elder' (qdk3_3 HO168) (Kd.R_base ho0) hb)
  have n1_ := Aside0.mk (Kd.R_below (qdk3_3 HO192) hb)
  have n2_ := Aside0.mk (Kd.R_lower (Kd.R_new' ho0 (Kd.R_lt (qdk3_3 HO168))) (below_size (qdk3_1 HB GE164 GE165)))
  have n3_ := Aside0.mk (blk_below (qdk3_2 BK164) hb)
  have n4_ := Aside0.mk (blk_below (qdk3_2 BK165) hb)
  have n5_ := Aside0.mk (below_step (qdk3_1 HB GE164 GE165) hb)
  clear HO168 HO192 BK164 BK165 HB
  have HO168 := n0_
  have HO192 := n1_
  have HO195 := n2_
  have BK164 := n3_
  have BK165 := n4_
  have HB := n5_
  clear n0_ n1_ n2_ n3_ n4_ n5_
  (try clear hb)
  (try clear hb2)
  (try clear hk)
  (try clear hi)
  (try clear ho0)
  obtain ⟨Ao85, co85, eo85⟩ := Kd.R_slice HO195.out
  (first | subst eo85 | (injection eo85 with f1_ f2_ f3_; have f4_ := f1_.symm; have f5_ := f3_.symm; clear f1_ f2_ f3_; subst f4_; subst f5_))
  refine hK.out _ _ ⟨(blk_cell BK164.out 0).trans rfl, (blk_cell BK164.out 1).trans rfl, (blk_cell BK164.out 2).trans rfl⟩ (fun hHeld => ?_)
  clear hK K
  refine norm_ (a' := ?_) ?_ ?_
  rotate_left
  ·show Act.put _ (some 86) _ = _
   simp only [Act.put, List.setIfInBounds_toArray, List.set_cons_zero, List.set_cons_succ, i64_w, i32_w]
   rfl
  refine pure_ (i := 7) (N := some 91) (bs_ 10 255) rfl rfl (any_of HT_.out qdk3_13) (fun _ _ _ h => h) (Or.inl ⟨by rfl, qpy_pdkx3⟩) qpa_pdkx3 ?_
  refine one_ (i := 8) (N := none) (bs_ 10 511) rfl rfl (one_of HT_.out qdk3_13) (by decide) (fun K hK => ?_)
  have hs86 : w84.cell? ⟨gb165, 0, none⟩ = some (.slice none 0 0) := (blk_cell BK165.out 0).trans rfl
  have hfs86 := blk_frozen BK165.out 0
  have hns86_0 := NB164_165.out
  have hms86_0 := NB165_164.out
  have hs87 : w84.cell? ⟨gb165, 1, none⟩ = some (.slice none 0 0) := (blk_cell BK165.out 1).trans rfl
  have hfs87 := blk_frozen BK165.out 1
  have hns87_0 := NB164_165.out
  have hms87_0 := NB165_164.out
  have hs88 : w84.cell? ⟨gb165, 2, none⟩ = some (.int .i64 0) := (blk_cell BK165.out 2).trans rfl
  have hfs88 := blk_frozen BK165.out 2
  have hns88_0 := NB164_165.out
  have hms88_0 := NB165_164.out
  refine skip_ (w1 := ?_) (by rfl) rfl ?_ ?_
  rotate_left
  ·go_simp
   rfl
  refine hK.out _ _ ⟨((cell_far (p := ⟨gb165, _, none⟩) NB164_165.out _).trans (((cell_far (p := ⟨gb165, _, none⟩) NB164_165.out _).trans (((cell_far (p := ⟨gb165, _, none⟩) NB164_165.out _).trans (hHeld.1)))))), ((cell_far (p := ⟨gb165, _, none⟩) NB164_165.out _).trans (((cell_far (p := ⟨gb165, _, none⟩) NB164_165.out _).trans (((cell_far (p := ⟨gb165, _, none⟩) NB164_165.out _).trans (hHeld.2.1)))))), ((cell_far (p := ⟨gb165, _, none⟩) NB164_165.out _).trans (((cell_far (p := ⟨gb165, _, none⟩) NB164_165.out _).trans (((cell_far (p := ⟨gb165, _, none⟩) NB164_165.out _).trans (hHeld.2.2))))))⟩ (fun hHeld => ?_)
  clear hK K
  refine pure_ (i := 9) (N := some 9) (bs_ 10 1023) rfl rfl (any_of HT_.out qdk3_13) (fun _ _ _ h => h) (Or.inl ⟨by rfl, qpy_pdkx3⟩) qpa_pdkx3 ?_
  refine done_ (done_of HT_.out qdk3_13) ?_
  try go_wp2
  refine bodyPost_ret (results_ct rfl _ _ gb165 25 #[.slice Ao85 t193.length co85, .slice Ao83 y190.length co83, .int .i64 (wrap64 (t172 + 1))] (0, 0) _ rfl (by (with_reducible repeat (first | refine blk_drewN ?_ _ | refine blk_drew ?_ | refine blk_alloc ?_ _)); refine blk_put (cs := #[.slice Ao85 t193.length co85, .slice Ao83 y190.length co83, .int .i64 0]) ?_ 2 _ rfl; (with_reducible repeat (first | refine blk_drewN ?_ _ | refine blk_drew ?_ | refine blk_alloc ?_ _)); refine blk_put (cs := #[.slice Ao85 t193.length co85, .slice none 0 0, .int .i64 0]) ?_ 1 _ rfl; (with_reducible repeat (first | refine blk_drewN ?_ _ | refine blk_drew ?_ | refine blk_alloc ?_ _)); refine blk_put (cs := #[.slice none 0 0, .slice none 0 0, .int .i64 0]) ?_ 0 _ rfl; (with_reducible repeat (first | refine blk_drewN ?_ _ | refine blk_drew ?_ | refine blk_alloc ?_ _)); exact BK165.out) Try.underlying25 rfl qdk3_13) rfl ?_
  exact ⟨_, _, rdk3_8, (rdk3_6 HO195 BK165), (rdk3_6 HO192 BK165), (rdk3_1 HB GE164 GE165)⟩
 rw [if_neg c69] at H
 exact absurd H (by simp)
end Go.Proofs.Ytohilfkdfcihgaa.PDi
