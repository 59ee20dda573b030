/- Go functions as Lean functions, and that each Go function comes to just that; printed by a program of this session (gprint.py over the kit's print.py). No condition. -/
import Derived.Test.YtohilfkdfcihgaaPDix0
import Derived.Test.YtohilfkdfcihgaaPDpx1
import Derived.Test.YtohilfkdfcihgaaPDpx3
import Derived.Test.YtohilfkdfcihgaaGPut
import Derived.Test.YtohilfkdfcihgaaPDix1
import Derived.Test.YtohilfkdfcihgaaPDix2
namespace Go.Proofs.Ytohilfkdfcihgaa.PDi
open Go.RowKit Go.Proofs.YtohilfkdfcihgaaW.PrintWords Go.Proofs.YtohilfkdfcihgaaW.PrintLast Go.Proofs.YtohilfkdfcihgaaW.PrintMore
attribute [local go_sem] max2_int min2_int max_two min_two max_three min_three max_four min_four   -- for this text's walks alone
set_option linter.unusedVariables false
set_option linter.unusedSimpArgs false

theorem qdp4_1 {P Q0 Q1 : Prop} (y0 : Q0) (y1 : Q1) (h : Q0 → Q1 → P := by intro y0_ y1_; (with_reducible repeat (first | apply Kd.R_alloc | apply Kd.R_drewN | apply Kd.R_drew)); exact (Kd.R_mono (Kd.R_far (p := ⟨gb235, 2, none⟩) (Kd.R_far (p := ⟨gb235, 1, none⟩) (Kd.R_far (p := ⟨gb235, 0, none⟩) (Kd.R_types y0_.out y1_.out (by decide)) (fun _ hk => hk.2) (.slice Ao120 t227.length co120)) (fun _ hk => hk.2) (.slice Ao126 t230.length co126)) (fun _ hk => hk.2) (.int .i64 t233)) (fun _ h_ => h_.1))) : P := h y0 y1
theorem qdp4_2 {P Q0 : Prop} (y0 : Q0) (h : Q0 → P := by intro y0_; (with_reducible repeat (first | apply Kd.R_alloc | apply Kd.R_drewN | apply Kd.R_drew)); exact y0_.out) : P := h y0
theorem qdp4_3 {P Q0 Q1 : Prop} (y0 : Q0) (y1 : Q1) (h : Q0 → Q1 → P := by intro y0_ y1_; (with_reducible repeat (first | apply Kd.R_alloc | apply Kd.R_drewN | apply Kd.R_drew)); exact (Kd.R_mono (Kd.R_far (p := ⟨gb202, 2, none⟩) (Kd.R_far (p := ⟨gb202, 1, none⟩) (Kd.R_far (p := ⟨gb202, 0, none⟩) (Kd.R_types y0_.out y1_.out (by decide)) (fun _ hk => hk.2) (.slice Ao38 t194.length co38)) (fun _ hk => hk.2) (.slice Ao43 t197.length co43)) (fun _ hk => hk.2) (.int .i64 t200)) (fun _ h_ => h_.1))) : P := h y0 y1
theorem qdp4_4 {P Q0 Q1 : Prop} (y0 : Q0) (y1 : Q1) (h : Q0 → Q1 → P := by intro y0_ y1_; (with_reducible repeat (first | refine blk_drewN ?_ _ | refine blk_drew ?_ | refine blk_alloc ?_ _)); refine blk_far ?_ y0_.out _; (with_reducible repeat (first | refine blk_drewN ?_ _ | refine blk_drew ?_ | refine blk_alloc ?_ _)); refine blk_far ?_ y0_.out _; (with_reducible repeat (first | refine blk_drewN ?_ _ | refine blk_drew ?_ | refine blk_alloc ?_ _)); refine blk_far ?_ y0_.out _; (with_reducible repeat (first | refine blk_drewN ?_ _ | refine blk_drew ?_ | refine blk_alloc ?_ _)); exact y1_.out) : P := h y0 y1
theorem qdp4_5 {P Q0 : Prop} (y0 : Q0) (h : Q0 → P := by intro y0_; (with_reducible repeat (first | refine blk_drewN ?_ _ | refine blk_drew ?_ | refine blk_alloc ?_ _)); exact y0_.out) : P := h y0
theorem qdp4_6 {P Q0 Q1 : Prop} (y0 : Q0) (y1 : Q1) (h : Q0 → Q1 → P := by intro y0_ y1_; (with_reducible repeat (first | apply Kd.R_alloc | apply Kd.R_drewN | apply Kd.R_drew)); exact (Kd.R_mono (Kd.R_far (p := ⟨gb193, 2, none⟩) (Kd.R_far (p := ⟨gb193, 1, none⟩) (Kd.R_far (p := ⟨gb193, 0, none⟩) (Kd.R_types y0_.out y1_.out (by decide)) (fun _ hk => hk.2) (.slice Ao31 t186.length co31)) (fun _ hk => hk.2) (.slice Ao35 t189.length co35)) (fun _ hk => hk.2) (.int .i64 t192)) (fun _ h_ => h_.1))) : P := h y0 y1
theorem qdp4_7 {P Q0 Q1 Q2 Q3 Q4 : Prop} (y0 : Q0) (y1 : Q1) (y2 : Q2) (y3 : Q3) (y4 : Q4) (h : Q0 → Q1 → Q2 → Q3 → Q4 → P := by intro y0_ y1_ y2_ y3_ y4_; repeat (first | (with_reducible first | exact y0_.out | apply below_alloc | apply pw_below_drewN | apply below_drew1 | refine below_set ?_ y1_.out | refine below_set ?_ y2_.out | refine below_set ?_ y3_.out | refine below_set ?_ y4_.out) | exact y0_.out)) : P := h y0 y1 y2 y3 y4
theorem qdp4_8 {P Q0 : Prop} (y0 : Q0) (h : Q0 → P := by intro y0_; repeat (first | exact (Kd.R_reads' y0_.out).2.2 | (with_reducible refine Kd.C_alloc ?_ _) | (with_reducible refine Kd.C_drewN ?_ _) | (with_reducible refine Kd.C_drew ?_))) : P := h y0
theorem qdp4_9 {P Q0 Q1 : Prop} (y0 : Q0) (y1 : Q1) (h : Q0 → Q1 → P := by intro y0_ y1_; (with_reducible repeat (first | apply Kd.R_alloc | apply Kd.R_drewN | apply Kd.R_drew)); exact (Kd.R_mono (Kd.R_far (p := ⟨gb185, 2, none⟩) (Kd.R_far (p := ⟨gb185, 1, none⟩) (Kd.R_far (p := ⟨gb185, 0, none⟩) (Kd.R_types y0_.out y1_.out (by decide)) (fun _ hk => hk.2) (.slice Ao24 t177.length co24)) (fun _ hk => hk.2) (.slice Ao27 t180.length co27)) (fun _ hk => hk.2) (.int .i64 t183)) (fun _ h_ => h_.1))) : P := h y0 y1
theorem qdp4_10 {P : Prop} (h : P := by (try simp only [List.map_toArray, List.map_cons, List.map_nil]); first | done | rfl | (simp only [List.length_drop, List.length_take]; rfl)) : P := h
theorem qdp4_11 {P Q0 Q1 : Prop} (y0 : Q0) (y1 : Q1) (h : Q0 → Q1 → P := by intro y0_ y1_; repeat (first | (with_reducible first | exact y0_.out | apply below_alloc | apply pw_below_drewN | apply below_drew1 | refine below_set ?_ y1_.out) | exact y0_.out)) : P := h y0 y1
theorem qdp4_12 {P Q0 Q1 : Prop} (y0 : Q0) (y1 : Q1) (h : Q0 → Q1 → P := by intro y0_ y1_; repeat (first | exact (Kd.C_below y0_.out y1_.out) | (with_reducible refine Kd.C_alloc ?_ _) | (with_reducible refine Kd.C_drewN ?_ _) | (with_reducible refine Kd.C_drew ?_))) : P := h y0 y1
theorem qdp4_13 {P Q0 Q1 Q2 : Prop} (y0 : Q0) (y1 : Q1) (y2 : Q2) (h : Q0 → Q1 → Q2 → P := by intro y0_ y1_ y2_; repeat (first | (with_reducible first | exact y0_.out | apply below_alloc | apply pw_below_drewN | apply below_drew1 | refine below_set ?_ y1_.out | refine below_set ?_ y2_.out) | exact y0_.out)) : P := h y0 y1 y2
theorem qdp4_14 {P Q0 Q1 Q2 Q3 : Prop} (y0 : Q0) (y1 : Q1) (y2 : Q2) (y3 : Q3) (h : Q0 → Q1 → Q2 → Q3 → P := by intro y0_ y1_ y2_ y3_; repeat (first | (with_reducible first | exact y0_.out | apply below_alloc | apply pw_below_drewN | apply below_drew1 | refine below_set ?_ y1_.out | refine below_set ?_ y2_.out | refine below_set ?_ y3_.out) | exact y0_.out)) : P := h y0 y1 y2 y3
theorem qdp4_15 {P Q0 : Prop} (y0 : Q0) (h : Q0 → P := by intro y0_; (with_reducible repeat (first | refine blk_drewN ?_ _ | refine blk_drew ?_ | refine blk_alloc ?_ _)); refine blk_put (cs := #[.slice Ao120 t227.length co120, .slice Ao126 t230.length co126, .int .i64 0]) ?_ 2 _ rfl; (with_reducible repeat (first | refine blk_drewN ?_ _ | refine blk_drew ?_ | refine blk_alloc ?_ _)); refine blk_put (cs := #[.slice Ao120 t227.length co120, .slice none 0 0, .int .i64 0]) ?_ 1 _ rfl; (with_reducible repeat (first | refine blk_drewN ?_ _ | refine blk_drew ?_ | refine blk_alloc ?_ _)); refine blk_put (cs := #[.slice none 0 0, .slice none 0 0, .int .i64 0]) ?_ 0 _ rfl; (with_reducible repeat (first | refine blk_drewN ?_ _ | refine blk_drew ?_ | refine blk_alloc ?_ _)); exact y0_.out) : P := h y0
theorem qdp4_16 {P Q0 : Prop} (y0 : Q0) (h : Q0 → P := by intro y0_; (with_reducible repeat (first | refine blk_drewN ?_ _ | refine blk_drew ?_ | refine blk_alloc ?_ _)); refine blk_put (cs := #[.slice Ao38 t194.length co38, .slice Ao43 t197.length co43, .int .i64 0]) ?_ 2 _ rfl; (with_reducible repeat (first | refine blk_drewN ?_ _ | refine blk_drew ?_ | refine blk_alloc ?_ _)); refine blk_put (cs := #[.slice Ao38 t194.length co38, .slice none 0 0, .int .i64 0]) ?_ 1 _ rfl; (with_reducible repeat (first | refine blk_drewN ?_ _ | refine blk_drew ?_ | refine blk_alloc ?_ _)); refine blk_put (cs := #[.slice none 0 0, .slice none 0 0, .int .i64 0]) ?_ 0 _ rfl; (with_reducible repeat (first | refine blk_drewN ?_ _ | refine blk_drew ?_ | refine blk_alloc ?_ _)); exact y0_.out) : P := h y0
theorem qdp4_17 {P Q0 : Prop} (y0 : Q0) (h : Q0 → P := by intro y0_; repeat (first | (with_reducible first | exact y0_.out | apply below_alloc | apply pw_below_drewN | apply below_drew1) | exact y0_.out)) : P := h y0
theorem qdp4_18 {P : Prop} (h : P := by refine (Kd.R_reads' (e := 62) (base := w.heap.size) (ok := fun k_ => ((((True ∧ some k_ ≠ (.slice Ao27 t180.length co27 : Value).ownBlock) ∧ some k_ ≠ (.slice Ao35 t214.length co35 : Value).ownBlock) ∧ some k_ ≠ (.slice Ao43 t197.length co43 : Value).ownBlock) ∧ some k_ ≠ (.slice Ao117 t223.length co117 : Value).ownBlock)) (n := t230.length) (c := co126) ?_).2.2; exact (qdp4_1 HO232 BK235)) : P := h
theorem qdp4_19 {P : Prop} (h : P := by refine (Kd.R_reads' (e := 2) (base := w.heap.size) (ok := fun k_ => ((((True ∧ some k_ ≠ (.slice Ao24 t177.length co24 : Value).ownBlock) ∧ some k_ ≠ (.slice Ao31 t213.length co31 : Value).ownBlock) ∧ some k_ ≠ (.slice Ao38 t194.length co38 : Value).ownBlock) ∧ some k_ ≠ (.slice Ao116 t220.length co116 : Value).ownBlock)) (n := t227.length) (c := co120) ?_).2.2; exact (qdp4_1 HO229 BK235)) : P := h
theorem qdp4_20 {P : Prop} (h : P := by refine (Kd.R_reads' (e := 62) (base := w.heap.size) (ok := fun k_ => (((some k_ ≠ (.slice Ao35 t214.length co35 : Value).ownBlock ∧ some k_ ≠ (.slice Ao43 t197.length co43 : Value).ownBlock) ∧ some k_ ≠ (.slice Ao117 t223.length co117 : Value).ownBlock) ∧ some k_ ≠ (.slice Ao126 t230.length co126 : Value).ownBlock)) (n := t180.length) (c := co27) ?_).2.2; exact (qdp4_1 HO_186001 BK235)) : P := h
theorem qdp4_21 {P : Prop} (h : P := by refine (Kd.R_reads' (e := 2) (base := w.heap.size) (ok := fun k_ => (((some k_ ≠ (.slice Ao31 t213.length co31 : Value).ownBlock ∧ some k_ ≠ (.slice Ao38 t194.length co38 : Value).ownBlock) ∧ some k_ ≠ (.slice Ao116 t220.length co116 : Value).ownBlock) ∧ some k_ ≠ (.slice Ao120 t227.length co120 : Value).ownBlock)) (n := t177.length) (c := co24) ?_).2.2; exact (qdp4_1 HO_186000 BK235)) : P := h
theorem qdp4_22 {P : Prop} (h : P := by refine (Kd.R_reads' (e := 62) (base := w.heap.size) (ok := fun k_ => (((True ∧ some k_ ≠ (.slice Ao21 t173.length co21 : Value).ownBlock) ∧ some k_ ≠ (.slice Ao27 t180.length co27 : Value).ownBlock) ∧ some k_ ≠ (.slice Ao35 t189.length co35 : Value).ownBlock)) (n := t197.length) (c := co43) ?_).2.2; exact (qdp4_3 HO199 BK202)) : P := h
theorem qdp4_23 {P : Prop} (h : P := by refine (Kd.R_reads' (e := 62) (base := w.heap.size) (ok := fun k_ => (((True ∧ some k_ ≠ (.slice Ao21 t173.length co21 : Value).ownBlock) ∧ some k_ ≠ (.slice Ao35 t189.length co35 : Value).ownBlock) ∧ some k_ ≠ (.slice Ao43 t197.length co43 : Value).ownBlock)) (n := t180.length) (c := co27) ?_).2.2; exact (qdp4_3 HO182 BK202)) : P := h
theorem qdp4_24 {P : Prop} (h : P := by refine (Kd.R_reads' (e := 2) (base := w.heap.size) (ok := fun k_ => (((True ∧ some k_ ≠ (.slice Ao20 t170.length co20 : Value).ownBlock) ∧ some k_ ≠ (.slice Ao24 t177.length co24 : Value).ownBlock) ∧ some k_ ≠ (.slice Ao31 t186.length co31 : Value).ownBlock)) (n := t194.length) (c := co38) ?_).2.2; exact (qdp4_3 HO196 BK202)) : P := h
theorem qdp4_25 {P : Prop} (h : P := by refine (Kd.R_reads' (e := 2) (base := w.heap.size) (ok := fun k_ => (((True ∧ some k_ ≠ (.slice Ao20 t170.length co20 : Value).ownBlock) ∧ some k_ ≠ (.slice Ao31 t186.length co31 : Value).ownBlock) ∧ some k_ ≠ (.slice Ao38 t194.length co38 : Value).ownBlock)) (n := t177.length) (c := co24) ?_).2.2; exact (qdp4_3 HO179 BK202)) : P := h
theorem qdp4_26 {P Q0 Q1 Q2 Q3 Q4 Q5 : Prop} (y0 : Q0) (y1 : Q1) (y2 : Q2) (y3 : Q3) (y4 : Q4) (y5 : Q5) (h : Q0 → Q1 → Q2 → Q3 → Q4 → Q5 → P := by intro y0_ y1_ y2_ y3_ y4_ y5_; repeat (first | (with_reducible first | exact y0_.out | apply below_alloc | apply pw_below_drewN | apply below_drew1 | refine below_set ?_ y1_.out | refine below_set ?_ y2_.out | refine below_set ?_ y3_.out | refine below_set ?_ y4_.out | refine below_set ?_ y5_.out) | exact y0_.out)) : P := h y0 y1 y2 y3 y4 y5
theorem qdp4_27 {P : Prop} (h : P := by first | rfl | (simp; done) | (simp [*]; done)) : P := h
theorem qdp4_28 {P : Prop} (h : P := by kernel_rfl) : P := h
/-! ### laws_FnExactDictPut: function 10 -/
mutual
def laws_FnExactDictPut.j0 : Nat → Int → Int → Int → Bool → Bool → Bool → List Int → List (S99) → Int → List Int → List (S62) → Int → List Int → List (S62) → Int → List Int → List (S62) → Int → Option (Bool)
 | 0, _, _, _, _, _, _, _, _, _, _, _, _, _, _, _, _, _, _ => none
 | k + 1, x1, x2, x3, x11, x14, x52, x169000, x169001, x169002, x186000, x186001, x186002, x194000, x194001, x194002, x203000, x203001, x203002 => if x52 = true then (none) else ((laws_toDict.f k x169000 x169001 x169002).bind fun bt204 => ((laws_eqDict.f k x194000 x194001 x194002 bt204.1 bt204.2.1 bt204.2.2).bind fun t211 => (if t211 = true then ((laws_markDict.f k x194000 x194001 x194002 1).bind fun bt212 => (if bt212.1 < 0 then (laws_FnExactDictPut.j1 k x1 x2 x3 x11 true x169000 x169001 x169002 x186000 x186001 x186002 x203000 x203001 x203002) else ((laws_eqDict.f k x203000 x203001 x203002 x186000 x186001 x186002).bind fun t215 => (if t215 = true then (laws_FnExactDictPut.j1 k x1 x2 x3 x11 (x14 != x11) x169000 x169001 x169002 x186000 x186001 x186002 x203000 x203001 x203002) else (laws_FnExactDictPut.j1 k x1 x2 x3 x11 true x169000 x169001 x169002 x186000 x186001 x186002 x203000 x203001 x203002))))) else (none))))
def laws_FnExactDictPut.j1 : Nat → Int → Int → Int → Bool → Bool → List Int → List (S99) → Int → List Int → List (S62) → Int → List Int → List (S62) → Int → Option (Bool)
 | 0, _, _, _, _, _, _, _, _, _, _, _, _, _, _ => none
 | k + 1, x1, x2, x3, x11, x73, x169000, x169001, x169002, x186000, x186001, x186002, x203000, x203001, x203002 => if x73 = true then (none) else ((laws_markDict.f k x203000 x203001 x203002 1).bind fun bt216 => ((laws_heldDict.f k bt216.2.1 bt216.2.2 x203002 1).bind fun t219 => (if t219 < 0 then (none) else (if t219 = bt216.1 then ((laws_toDict.f k x169000 x169001 x169002).bind fun bt220 => ((impl_DictPut.f bt220.1 bt220.2.1 bt220.2.2 x1 x2 x3).bind fun bt227 => ((laws_eqDict.f k bt227.1 bt227.2.1 bt227.2.2.1 x186000 x186001 x186002).bind fun t236 => (if t236 = true then (laws_FnExactDictPut.j2 k bt216.1 (bt227.2.2.2 != x11) bt216.2.1 bt216.2.2 x203002) else (laws_FnExactDictPut.j2 k bt216.1 true bt216.2.1 bt216.2.2 x203002))))) else (none)))))
def laws_FnExactDictPut.j2 : Nat → Int → Bool → List Int → List (S62) → Int → Option (Bool)
 | 0, _, _, _, _, _ => none
 | k + 1, x16, x102, x203000, x203001, x203002 => if x102 = true then (none) else ((laws_heldDict.f k x203000 x203001 x203002 1).bind fun t237 => (if t237 < 0 then (none) else (if t237 = x16 then (some true) else (none))))
end
def laws_FnExactDictPut.f (k : Nat) (l0_0 : List Int) (l0_1 : List (S99)) (a0_2 : Int) (a1 : Int) (a2 : Int) (a3 : Int) : Option (Bool) := (laws_szDict.f l0_0 l0_1 a0_2 1048576).bind fun t169 => (if t169 < 0 then (some true) else ((laws_toDict.f k l0_0 l0_1 a0_2).bind fun bt170 => ((spec_DictPut.f k bt170.1 bt170.2.1 bt170.2.2 a1 a2 a3).bind fun bt177 => ((laws_toDict.f k l0_0 l0_1 a0_2).bind fun bt186 => ((impl_DictPut.f bt186.1 bt186.2.1 bt186.2.2 a1 a2 a3).bind fun bt194 => ((laws_eqDict.f k bt194.1 bt194.2.1 bt194.2.2.1 bt177.1 bt177.2.1 bt177.2.2.1).bind fun t203 => (if t203 = true then (laws_FnExactDictPut.j0 k a1 a2 a3 bt177.2.2.2 bt194.2.2.2 (bt194.2.2.2 != bt177.2.2.2) l0_0 l0_1 a0_2 bt177.1 bt177.2.1 bt177.2.2.1 bt186.1 bt186.2.1 bt186.2.2 bt194.1 bt194.2.1 bt194.2.2.1) else (laws_FnExactDictPut.j0 k a1 a2 a3 bt177.2.2.2 bt194.2.2.2 true l0_0 l0_1 a0_2 bt177.1 bt177.2.1 bt177.2.2.1 bt186.1 bt186.2.1 bt186.2.2 bt194.1 bt194.2.1 bt194.2.2.1))))))))
theorem laws_FnExactDictPut.mono_l : ∀ k, (∀ y0 y1 y2 y3 y4 y5 y6 y7 y8 y9 y10 y11 y12 y13 y14 y15 y16 y17, LeO (laws_FnExactDictPut.j0 k y0 y1 y2 y3 y4 y5 y6 y7 y8 y9 y10 y11 y12 y13 y14 y15 y16 y17) (laws_FnExactDictPut.j0 (k + 1) y0 y1 y2 y3 y4 y5 y6 y7 y8 y9 y10 y11 y12 y13 y14 y15 y16 y17)) ∧ (∀ y0 y1 y2 y3 y4 y5 y6 y7 y8 y9 y10 y11 y12 y13, LeO (laws_FnExactDictPut.j1 k y0 y1 y2 y3 y4 y5 y6 y7 y8 y9 y10 y11 y12 y13) (laws_FnExactDictPut.j1 (k + 1) y0 y1 y2 y3 y4 y5 y6 y7 y8 y9 y10 y11 y12 y13)) ∧ (∀ y0 y1 y2 y3 y4, LeO (laws_FnExactDictPut.j2 k y0 y1 y2 y3 y4) (laws_FnExactDictPut.j2 (k + 1) y0 y1 y2 y3 y4))
 | 0 => ⟨fun _ _ _ _ _ _ _ _ _ _ _ _ _ _ _ _ _ _ r h => by simp [laws_FnExactDictPut.j0] at h, fun _ _ _ _ _ _ _ _ _ _ _ _ _ _ r h => by simp [laws_FnExactDictPut.j1] at h, fun _ _ _ _ _ r h => by simp [laws_FnExactDictPut.j2] at h⟩
 | k + 1 => by
  obtain ⟨ih0, ih1, ih2⟩ := laws_FnExactDictPut.mono_l k
  refine ⟨?_, ?_, ?_⟩
  ·intro y0 y1 y2 y3 y4 y5 y6 y7 y8 y9 y10 y11 y12 y13 y14 y15 y16 y17
   unfold laws_FnExactDictPut.j0
   repeat' first
   | (with_reducible exact ih0 _ _ _ _ _ _ _ _ _ _ _ _ _ _ _ _ _ _)
   | (with_reducible exact ih1 _ _ _ _ _ _ _ _ _ _ _ _ _ _)
   | (with_reducible exact ih2 _ _ _ _ _)
   | (with_reducible exact laws_eqDict.mono _ _ _ _ _ _ _)
   | (with_reducible exact laws_heldDict.mono _ _ _ _ _)
   | (with_reducible exact laws_markDict.mono _ _ _ _ _)
   | (with_reducible exact laws_toDict.mono _ _ _ _)
   | (with_reducible exact spec_DictPut.mono _ _ _ _ _ _ _)
   | (with_reducible exact LeO.refl _)
   | (with_reducible exact LeO.none _)
   | (with_reducible refine LeO.ite ?_ ?_)
   | (with_reducible refine LeO.bind ?_ (fun _ => ?_))
   | exact ih0 _ _ _ _ _ _ _ _ _ _ _ _ _ _ _ _ _ _
   | exact ih1 _ _ _ _ _ _ _ _ _ _ _ _ _ _
   | exact ih2 _ _ _ _ _
   | exact laws_eqDict.mono _ _ _ _ _ _ _
   | exact laws_heldDict.mono _ _ _ _ _
   | exact laws_markDict.mono _ _ _ _ _
   | exact laws_toDict.mono _ _ _ _
   | exact spec_DictPut.mono _ _ _ _ _ _ _
   | exact LeO.none _
   | refine LeO.ite ?_ ?_
   | refine LeO.bind ?_ (fun _ => ?_)
  ·intro y0 y1 y2 y3 y4 y5 y6 y7 y8 y9 y10 y11 y12 y13
   unfold laws_FnExactDictPut.j1
   repeat' first
   | (with_reducible exact ih0 _ _ _ _ _ _ _ _ _ _ _ _ _ _ _ _ _ _)
   | (with_reducible exact ih1 _ _ _ _ _ _ _ _ _ _ _ _ _ _)
   | (with_reducible exact ih2 _ _ _ _ _)
   | (with_reducible exact laws_eqDict.mono _ _ _ _ _ _ _)
   | (with_reducible exact laws_heldDict.mono _ _ _ _ _)
   | (with_reducible exact laws_markDict.mono _ _ _ _ _)
   | (with_reducible exact laws_toDict.mono _ _ _ _)
   | (with_reducible exact spec_DictPut.mono _ _ _ _ _ _ _)
   | (with_reducible exact LeO.refl _)
   | (with_reducible exact LeO.none _)
   | (with_reducible refine LeO.ite ?_ ?_)
   | (with_reducible refine LeO.bind ?_ (fun _ => ?_))
   | exact ih0 _ _ _ _ _ _ _ _ _ _ _ _ _ _ _ _ _ _
   | exact ih1 _ _ _ _ _ _ _ _ _ _ _ _ _ _
   | exact ih2 _ _ _ _ _
   | exact laws_eqDict.mono _ _ _ _ _ _ _
   | exact laws_heldDict.mono _ _ _ _ _
   | exact laws_markDict.mono _ _ _ _ _
   | exact laws_toDict.mono _ _ _ _
   | exact spec_DictPut.mono _ _ _ _ _ _ _
   | exact LeO.none _
   | refine LeO.ite ?_ ?_
   | refine LeO.bind ?_ (fun _ => ?_)
  ·intro y0 y1 y2 y3 y4
   unfold laws_FnExactDictPut.j2
   repeat' first
   | (with_reducible exact ih0 _ _ _ _ _ _ _ _ _ _ _ _ _ _ _ _ _ _)
   | (with_reducible exact ih1 _ _ _ _ _ _ _ _ _ _ _ _ _ _)
   | (with_reducible exact ih2 _ _ _ _ _)
   | (with_reducible exact laws_eqDict.mono _ _ _ _ _ _ _)
   | (with_reducible exact laws_heldDict.mono _ _ _ _ _)
   | (with_reducible exact laws_markDict.mono _ _ _ _ _)
   | (with_reducible exact laws_toDict.mono _ _ _ _)
   | (with_reducible exact spec_DictPut.mono _ _ _ _ _ _ _)
   | (with_reducible exact LeO.refl _)
   | (with_reducible exact LeO.none _)
   | (with_reducible refine LeO.ite ?_ ?_)
   | (with_reducible refine LeO.bind ?_ (fun _ => ?_))
   | exact ih0 _ _ _ _ _ _ _ _ _ _ _ _ _ _ _ _ _ _
   | exact ih1 _ _ _ _ _ _ _ _ _ _ _ _ _ _
   | exact ih2 _ _ _ _ _
   | exact laws_eqDict.mono _ _ _ _ _ _ _
   | exact laws_heldDict.mono _ _ _ _ _
   | exact laws_markDict.mono _ _ _ _ _
   | exact laws_toDict.mono _ _ _ _
   | exact spec_DictPut.mono _ _ _ _ _ _ _
   | exact LeO.none _
   | refine LeO.ite ?_ ?_
   | refine LeO.bind ?_ (fun _ => ?_)
theorem laws_FnExactDictPut.mono : ∀ a0 a1 a2 a3 a4 a5 k, LeO (laws_FnExactDictPut.f k a0 a1 a2 a3 a4 a5) (laws_FnExactDictPut.f (k + 1) a0 a1 a2 a3 a4 a5) := by
 intro a0 a1 a2 a3 a4 a5 k
 obtain ⟨ih0, ih1, ih2⟩ := laws_FnExactDictPut.mono_l k
 unfold laws_FnExactDictPut.f
 repeat' first
   | (with_reducible exact ih0 _ _ _ _ _ _ _ _ _ _ _ _ _ _ _ _ _ _)
   | (with_reducible exact ih1 _ _ _ _ _ _ _ _ _ _ _ _ _ _)
   | (with_reducible exact ih2 _ _ _ _ _)
   | (with_reducible exact laws_eqDict.mono _ _ _ _ _ _ _)
   | (with_reducible exact laws_heldDict.mono _ _ _ _ _)
   | (with_reducible exact laws_markDict.mono _ _ _ _ _)
   | (with_reducible exact laws_toDict.mono _ _ _ _)
   | (with_reducible exact spec_DictPut.mono _ _ _ _ _ _ _)
   | (with_reducible exact LeO.refl _)
   | (with_reducible exact LeO.none _)
   | (with_reducible refine LeO.ite ?_ ?_)
   | (with_reducible refine LeO.bind ?_ (fun _ => ?_))
   | exact ih0 _ _ _ _ _ _ _ _ _ _ _ _ _ _ _ _ _ _
   | exact ih1 _ _ _ _ _ _ _ _ _ _ _ _ _ _
   | exact ih2 _ _ _ _ _
   | exact laws_eqDict.mono _ _ _ _ _ _ _
   | exact laws_heldDict.mono _ _ _ _ _
   | exact laws_markDict.mono _ _ _ _ _
   | exact laws_toDict.mono _ _ _ _
   | exact spec_DictPut.mono _ _ _ _ _ _ _
   | exact LeO.none _
   | refine LeO.ite ?_ ?_
   | refine LeO.bind ?_ (fun _ => ?_)
set_option maxHeartbeats 8000000 in
set_option maxRecDepth 100000 in
theorem laws_FnExactDictPut.calls (k : Nat) (A0_0 : Option Addr) (c0_0 : Nat) (l0_0 : List Int) (A0_1 : Option Addr) (c0_1 : Nat) (l0_1 : List (S99)) (a0_2 : Int) (a1 : Int) (a2 : Int) (a3 : Int) (r : Bool) (w : World) (hr0_0 : Kd.C (Kd.int .i64) w A0_0 l0_0.length l0_0) (hc0_0 : l0_0.length ≤ c0_0) (hr0_1 : Kd.C k99 w A0_1 l0_1.length l0_1) (hc0_1 : l0_1.length ≤ c0_1) (h : laws_FnExactDictPut.f k l0_0 l0_1 a0_2 a1 a2 a3 = some r) :
  Calls Try.prog 10 #[.agg #[.slice A0_0 l0_0.length c0_0, .slice A0_1 l0_1.length c0_1, .int .i64 a0_2], .int .u64 a1, .int .i64 a2, .int .i64 a3] w fun e w' => e = .returned (.bool r) ∧ Below w.heap.size w w' := by
 have hu40 := Try.underlying40
 have hu25 := Try.underlying25
 have HR0_0 := Aside0.mk hr0_0
 have HC0_0 := Aside0.mk hc0_0
 clear hr0_0 hc0_0
 have HR0_1 := Aside0.mk hr0_1
 have HC0_1 := Aside0.mk hc0_1
 clear hr0_1 hc0_1
 have HB := Aside0.mk (Below.refl w.heap.size w)
 have H : ((laws_szDict.f l0_0 l0_1 a0_2 1048576).bind fun t169 => (if t169 < 0 then (some true) else ((laws_toDict.f k l0_0 l0_1 a0_2).bind fun bt170 => ((spec_DictPut.f k bt170.1 bt170.2.1 bt170.2.2 a1 a2 a3).bind fun bt177 => ((laws_toDict.f k l0_0 l0_1 a0_2).bind fun bt186 => ((impl_DictPut.f bt186.1 bt186.2.1 bt186.2.2 a1 a2 a3).bind fun bt194 => ((laws_eqDict.f k bt194.1 bt194.2.1 bt194.2.2.1 bt177.1 bt177.2.1 bt177.2.2.1).bind fun t203 => (if t203 = true then (laws_FnExactDictPut.j0 k a1 a2 a3 bt177.2.2.2 bt194.2.2.2 (bt194.2.2.2 != bt177.2.2.2) l0_0 l0_1 a0_2 bt177.1 bt177.2.1 bt177.2.2.1 bt186.1 bt186.2.1 bt186.2.2 bt194.1 bt194.2.1 bt194.2.2.1) else (laws_FnExactDictPut.j0 k a1 a2 a3 bt177.2.2.2 bt194.2.2.2 true l0_0 l0_1 a0_2 bt177.1 bt177.2.1 bt177.2.2.1 bt186.1 bt186.2.1 bt186.2.2 bt194.1 bt194.2.1 bt194.2.2.1))))))))) = some r := h
 clear h
 replace H := Option.bind_eq_some_iff.mp H
 obtain ⟨t169, A50, H⟩ := H
 replace H : (if t169 < 0 then (some true) else ((laws_toDict.f k l0_0 l0_1 a0_2).bind fun bt170 => ((spec_DictPut.f k bt170.1 bt170.2.1 bt170.2.2 a1 a2 a3).bind fun bt177 => ((laws_toDict.f k l0_0 l0_1 a0_2).bind fun bt186 => ((impl_DictPut.f bt186.1 bt186.2.1 bt186.2.2 a1 a2 a3).bind fun bt194 => ((laws_eqDict.f k bt194.1 bt194.2.1 bt194.2.2.1 bt177.1 bt177.2.1 bt177.2.2.1).bind fun t203 => (if t203 = true then (laws_FnExactDictPut.j0 k a1 a2 a3 bt177.2.2.2 bt194.2.2.2 (bt194.2.2.2 != bt177.2.2.2) l0_0 l0_1 a0_2 bt177.1 bt177.2.1 bt177.2.2.1 bt186.1 bt186.2.1 bt186.2.2 bt194.1 bt194.2.1 bt194.2.2.1) else (laws_FnExactDictPut.j0 k a1 a2 a3 bt177.2.2.2 bt194.2.2.2 true l0_0 l0_1 a0_2 bt177.1 bt177.2.1 bt177.2.2.1 bt186.1 bt186.2.1 bt186.2.2 bt194.1 bt194.2.1 bt194.2.2.1)))))))) = some r := H
 have A5 := Aside0.mk A50
 clear A50
 by_cases c6 : t169 < 0
 ·rw [if_pos c6] at H
  have c6b0 : decide (t169 < 0) = true := decide_eq_true c6
  clear c6
  obtain rfl := Option.some.inj H
  go_enter Try.func10, Try.ntmps10
  go_wp2_with (first | ((with_reducible refine gate_dst (N := 4) rfl ?_); refine box_event ?hg (N := 4) ?hd (cs := #[.slice A0_0 l0_0.length c0_0, .slice A0_1 l0_1.length c0_1, .int .i64 a0_2]) (t := 40) ?hr ?_; (case hd => rfl); (case hg => rfl); (case hr => exact (by first | (go_simp; done) | (go_simp; rfl))); intro gb168 hg w7 hbox hb; have n0_ := Aside0.mk (below_step (qdp4_17 HB) hb); have n1_ := Aside0.mk (hbox); have n2_ := Aside0.mk ((by rw [hg]; exact (below_size (qdp4_17 HB)) : w.heap.size ≤ gb168)); have n3_ := Aside0.mk ((by rw [hg]; exact (below_size (qdp4_17 HB)) : w.heap.size ≤ gb168)); clear HB; have HB := n0_; have BK168 := n1_; have GW168 := n2_; have GE168 := n3_; clear n0_ n1_ n2_ n3_; clear hb hbox hg; have hcz8_0 : w7.cell? ⟨gb168, 0, none⟩ = some (.slice A0_0 l0_0.length c0_0) := (blk_cell BK168.out 0).trans rfl; have hcz8_1 : w7.cell? ⟨gb168, 1, none⟩ = some (.slice A0_1 l0_1.length c0_1) := (blk_cell BK168.out 1).trans rfl; have hcz8_2 : w7.cell? ⟨gb168, 2, none⟩ = some (.int .i64 a0_2) := (blk_cell BK168.out 2).trans rfl; have hfz8_0 := blk_frozen BK168.out 0; have hfz8_1 := blk_frozen BK168.out 1; have hfz8_2 := blk_frozen BK168.out 2) | ((with_reducible refine gate_callee (f := 19) rfl ?_); refine goesL_ (some 22) rfl rfl Try.func19 qdp4_28 rfl #[.agg #[.slice A0_0 l0_0.length c0_0, .slice A0_1 l0_1.length c0_1, .int .i64 a0_2], .int .i64 1048576] rfl qdp4_10 ?_; (with_reducible refine (laws_szDict.calls _ _ l0_0 _ _ l0_1 a0_2 1048576 t169 _ ?side1 ?side2 ?side3 ?side4 A5.out).mono ?_); (case side1 => exact (qdp4_12 HR0_0 HB)); (case side2 => exact HC0_0.out); (case side3 => exact (qdp4_12 HR0_1 HB)); (case side4 => exact HC0_1.out); rintro e w9 ⟨rfl, hb⟩; refine ⟨_, rfl, ?_⟩; have n0_ := Aside0.mk (blk_below (g := gb168) (o := .cells #[.slice A0_0 l0_0.length c0_0, .slice A0_1 l0_1.length c0_1, .int .i64 a0_2] 40 (0, 0)) (qdp4_5 BK168) hb); have n1_ := Aside0.mk (below_step (qdp4_11 HB GE168) hb); clear BK168; clear HB; have BK168 := n0_; have HB := n1_; clear n0_ n1_; (try clear hb); (try clear hb2); (try clear hk); (try clear hi)))
  go_ret
  exact ⟨by first | rfl | (simp [errW_none, errW_some] <;> rfl) | (simp [*, errW_none, errW_some] <;> rfl), by repeat (first | (with_reducible first | exact HB.out | apply below_alloc | apply pw_below_drewN | apply below_drew1 | refine below_set ?_ GE168.out) | exact HB.out)⟩
 ·rw [if_neg c6] at H
  have c6b0 : decide (t169 < 0) = false := decide_eq_false c6
  clear c6
  replace H := Option.bind_eq_some_iff.mp H
  obtain ⟨⟨t170, t173, t176⟩, A100, H⟩ := H
  replace H : ((spec_DictPut.f k t170 t173 t176 a1 a2 a3).bind fun bt177 => ((laws_toDict.f k l0_0 l0_1 a0_2).bind fun bt186 => ((impl_DictPut.f bt186.1 bt186.2.1 bt186.2.2 a1 a2 a3).bind fun bt194 => ((laws_eqDict.f k bt194.1 bt194.2.1 bt194.2.2.1 bt177.1 bt177.2.1 bt177.2.2.1).bind fun t203 => (if t203 = true then (laws_FnExactDictPut.j0 k a1 a2 a3 bt177.2.2.2 bt194.2.2.2 (bt194.2.2.2 != bt177.2.2.2) l0_0 l0_1 a0_2 bt177.1 bt177.2.1 bt177.2.2.1 bt186.1 bt186.2.1 bt186.2.2 bt194.1 bt194.2.1 bt194.2.2.1) else (laws_FnExactDictPut.j0 k a1 a2 a3 bt177.2.2.2 bt194.2.2.2 true l0_0 l0_1 a0_2 bt177.1 bt177.2.1 bt177.2.2.1 bt186.1 bt186.2.1 bt186.2.2 bt194.1 bt194.2.1 bt194.2.2.1)))))) = some r := H
  have A10 := Aside0.mk A100
  clear A100
  replace H := Option.bind_eq_some_iff.mp H
  obtain ⟨⟨t177, t180, t183, t184⟩, A110, H⟩ := H
  replace H : ((laws_toDict.f k l0_0 l0_1 a0_2).bind fun bt186 => ((impl_DictPut.f bt186.1 bt186.2.1 bt186.2.2 a1 a2 a3).bind fun bt194 => ((laws_eqDict.f k bt194.1 bt194.2.1 bt194.2.2.1 t177 t180 t183).bind fun t203 => (if t203 = true then (laws_FnExactDictPut.j0 k a1 a2 a3 t184 bt194.2.2.2 (bt194.2.2.2 != t184) l0_0 l0_1 a0_2 t177 t180 t183 bt186.1 bt186.2.1 bt186.2.2 bt194.1 bt194.2.1 bt194.2.2.1) else (laws_FnExactDictPut.j0 k a1 a2 a3 t184 bt194.2.2.2 true l0_0 l0_1 a0_2 t177 t180 t183 bt186.1 bt186.2.1 bt186.2.2 bt194.1 bt194.2.1 bt194.2.2.1))))) = some r := H
  have A11 := Aside0.mk A110
  clear A110
  replace H := Option.bind_eq_some_iff.mp H
  obtain ⟨⟨t186, t189, t192⟩, A120, H⟩ := H
  replace H : ((impl_DictPut.f t186 t189 t192 a1 a2 a3).bind fun bt194 => ((laws_eqDict.f k bt194.1 bt194.2.1 bt194.2.2.1 t177 t180 t183).bind fun t203 => (if t203 = true then (laws_FnExactDictPut.j0 k a1 a2 a3 t184 bt194.2.2.2 (bt194.2.2.2 != t184) l0_0 l0_1 a0_2 t177 t180 t183 t186 t189 t192 bt194.1 bt194.2.1 bt194.2.2.1) else (laws_FnExactDictPut.j0 k a1 a2 a3 t184 bt194.2.2.2 true l0_0 l0_1 a0_2 t177 t180 t183 t186 t189 t192 bt194.1 bt194.2.1 bt194.2.2.1)))) = some r := H
  have A12 := Aside0.mk A120
  clear A120
  replace H := Option.bind_eq_some_iff.mp H
  obtain ⟨⟨t194, t197, t200, t201⟩, A130, H⟩ := H
  replace H : ((laws_eqDict.f k t194 t197 t200 t177 t180 t183).bind fun t203 => (if t203 = true then (laws_FnExactDictPut.j0 k a1 a2 a3 t184 t201 (t201 != t184) l0_0 l0_1 a0_2 t177 t180 t183 t186 t189 t192 t194 t197 t200) else (laws_FnExactDictPut.j0 k a1 a2 a3 t184 t201 true l0_0 l0_1 a0_2 t177 t180 t183 t186 t189 t192 t194 t197 t200))) = some r := H
  have A13 := Aside0.mk A130
  clear A130
  have HC14 := Aside0.mk H
  clear H
  go_enter Try.func10, Try.ntmps10
  go_upto_region 8 with (first | ((with_reducible refine gate_dst (N := 4) rfl ?_); refine box_event ?hg (N := 4) ?hd (cs := #[.slice A0_0 l0_0.length c0_0, .slice A0_1 l0_1.length c0_1, .int .i64 a0_2]) (t := 40) ?hr ?_; (case hd => rfl); (case hg => rfl); (case hr => exact (by first | (go_simp; done) | (go_simp; rfl))); intro gb168 hg w15 hbox hb; have n0_ := Aside0.mk (below_step (qdp4_17 HB) hb); have n1_ := Aside0.mk (hbox); have n2_ := Aside0.mk ((by rw [hg]; exact (below_size (qdp4_17 HB)) : w.heap.size ≤ gb168)); have n3_ := Aside0.mk ((by rw [hg]; exact (below_size (qdp4_17 HB)) : w.heap.size ≤ gb168)); clear HB; have HB := n0_; have BK168 := n1_; have GW168 := n2_; have GE168 := n3_; clear n0_ n1_ n2_ n3_; clear hb hbox hg; have hcz16_0 : w15.cell? ⟨gb168, 0, none⟩ = some (.slice A0_0 l0_0.length c0_0) := (blk_cell BK168.out 0).trans rfl; have hcz16_1 : w15.cell? ⟨gb168, 1, none⟩ = some (.slice A0_1 l0_1.length c0_1) := (blk_cell BK168.out 1).trans rfl; have hcz16_2 : w15.cell? ⟨gb168, 2, none⟩ = some (.int .i64 a0_2) := (blk_cell BK168.out 2).trans rfl; have hfz16_0 := blk_frozen BK168.out 0; have hfz16_1 := blk_frozen BK168.out 1; have hfz16_2 := blk_frozen BK168.out 2) | ((with_reducible refine gate_callee (f := 19) rfl ?_); refine goesL_ (some 22) rfl rfl Try.func19 qdp4_28 rfl #[.agg #[.slice A0_0 l0_0.length c0_0, .slice A0_1 l0_1.length c0_1, .int .i64 a0_2], .int .i64 1048576] rfl qdp4_10 ?_; (with_reducible refine (laws_szDict.calls _ _ l0_0 _ _ l0_1 a0_2 1048576 t169 _ ?side1 ?side2 ?side3 ?side4 A5.out).mono ?_); (case side1 => exact (qdp4_12 HR0_0 HB)); (case side2 => exact HC0_0.out); (case side3 => exact (qdp4_12 HR0_1 HB)); (case side4 => exact HC0_1.out); rintro e w17 ⟨rfl, hb⟩; refine ⟨_, rfl, ?_⟩; have n0_ := Aside0.mk (blk_below (g := gb168) (o := .cells #[.slice A0_0 l0_0.length c0_0, .slice A0_1 l0_1.length c0_1, .int .i64 a0_2] 40 (0, 0)) (qdp4_5 BK168) hb); have n1_ := Aside0.mk (below_step (qdp4_11 HB GE168) hb); clear BK168; clear HB; have BK168 := n0_; have HB := n1_; clear n0_ n1_; (try clear hb); (try clear hb2); (try clear hk); (try clear hi); have hcz18_0 : w17.cell? ⟨gb168, 0, none⟩ = some (.slice A0_0 l0_0.length c0_0) := (blk_cell BK168.out 0).trans rfl; have hcz18_1 : w17.cell? ⟨gb168, 1, none⟩ = some (.slice A0_1 l0_1.length c0_1) := (blk_cell BK168.out 1).trans rfl; have hcz18_2 : w17.cell? ⟨gb168, 2, none⟩ = some (.int .i64 a0_2) := (blk_cell BK168.out 2).trans rfl; have hfz18_0 := blk_frozen BK168.out 0; have hfz18_1 := blk_frozen BK168.out 1; have hfz18_2 := blk_frozen BK168.out 2) | ((with_reducible refine gate_callee (f := 21) rfl ?_); refine goesL_ (some 27) rfl rfl Try.func21 qdp4_28 rfl #[.agg #[.slice A0_0 l0_0.length c0_0, .slice A0_1 l0_1.length c0_1, .int .i64 a0_2]] rfl qdp4_10 ?_; (with_reducible refine (laws_toDict.calls k _ _ l0_0 _ _ l0_1 a0_2 t170 t173 t176 _ ?side1 ?side2 ?side3 ?side4 A10.out).mono ?_); (case side1 => exact (qdp4_12 HR0_0 HB)); (case side2 => exact HC0_0.out); (case side3 => exact (qdp4_12 HR0_1 HB)); (case side4 => exact HC0_1.out); rintro e w19 ⟨v171, v174, rfl, ho0, ho1, hb⟩; refine ⟨_, rfl, ?_⟩; have n0_ := Aside0.mk (Kd.R_lower ho0 (below_size (qdp4_11 HB GE168))); have n1_ := Aside0.mk (Kd.R_lower ho1 (below_size (qdp4_11 HB GE168))); have n2_ := Aside0.mk (blk_below (g := gb168) (o := .cells #[.slice A0_0 l0_0.length c0_0, .slice A0_1 l0_1.length c0_1, .int .i64 a0_2] 40 (0, 0)) (qdp4_5 BK168) hb); have n3_ := Aside0.mk (below_step (qdp4_11 HB GE168) hb); clear BK168; clear HB; have HO172 := n0_; have HO175 := n1_; have BK168 := n2_; have HB := n3_; clear n0_ n1_ n2_ n3_; (try clear hb); (try clear hb2); (try clear hk); (try clear hi); (try clear ho0); (try clear ho1); obtain ⟨Ao20, co20, eo20⟩ := Kd.R_slice HO172.out; subst eo20; obtain ⟨Ao21, co21, eo21⟩ := Kd.R_slice HO175.out; subst eo21) | ((with_reducible refine gate_callee (f := 38) rfl ?_); refine goesL_ (some 31) rfl rfl Try.func38 qdp4_28 rfl #[.agg #[.slice Ao20 t170.length co20, .slice Ao21 t173.length co21, .int .i64 t176], .int .u64 a1, .int .i64 a2, .int .i64 a3] rfl qdp4_10 ?_; (with_reducible refine (spec_DictPut.calls k _ _ t170 _ _ t173 t176 a1 a2 a3 t177 t180 t183 t184 _ ?side1 ?side2 ?side3 ?side4 A11.out).mono ?_); (case side1 => exact (qdp4_8 HO172)); (case side2 => exact (Kd.R_reads' HO172.out).2.1); (case side3 => exact (qdp4_8 HO175)); (case side4 => exact (Kd.R_reads' HO175.out).2.1); rintro e w22 ⟨v178, v181, rfl, ho0, ho1, hb⟩; refine ⟨_, rfl, ?_⟩; have n0_ := Aside0.mk (Kd.R_elder' (qdp4_2 HO172) (Kd.R_base ho0) hb); have n1_ := Aside0.mk (Kd.R_elder' (qdp4_2 HO175) (Kd.R_base ho1) hb); have n2_ := Aside0.mk (Kd.R_lower (Kd.R_new' ho0 (Kd.R_lt (qdp4_2 HO172))) (below_size (qdp4_11 HB GE168))); have n3_ := Aside0.mk (Kd.R_lower (Kd.R_new' ho1 (Kd.R_lt (qdp4_2 HO175))) (below_size (qdp4_11 HB GE168))); have n4_ := Aside0.mk (blk_below (g := gb168) (o := .cells #[.slice A0_0 l0_0.length c0_0, .slice A0_1 l0_1.length c0_1, .int .i64 a0_2] 40 (0, 0)) (qdp4_5 BK168) hb); have n5_ := Aside0.mk (below_step (qdp4_11 HB GE168) hb); clear HO172; clear HO175; clear BK168; clear HB; have HO172 := n0_; have HO175 := n1_; have HO179 := n2_; have HO182 := n3_; have BK168 := n4_; have HB := n5_; clear n0_ n1_ n2_ n3_ n4_ n5_; (try clear hb); (try clear hb2); (try clear hk); (try clear hi); (try clear ho0); (try clear ho1)) | ((with_reducible refine gate_dst (N := 10) rfl ?_); refine box_event ?hg (N := 10) ?hd (cs := #[.slice none 0 0, .slice none 0 0, .int .i64 0]) (t := 25) ?hr ?_; (case hd => rfl); (case hg => rfl); (case hr => exact (by first | (go_simp; done) | (go_simp; rfl))); intro gb185 hg w23 hbox hb; have n0_ := Aside0.mk (Kd.R_below (qdp4_2 HO172) hb); have n1_ := Aside0.mk (Kd.R_below (qdp4_2 HO175) hb); have n2_ := Aside0.mk (Kd.R_below (qdp4_2 HO179) hb); have n3_ := Aside0.mk (Kd.R_below (qdp4_2 HO182) hb); have n4_ := Aside0.mk (blk_below (g := gb168) (o := .cells #[.slice A0_0 l0_0.length c0_0, .slice A0_1 l0_1.length c0_1, .int .i64 a0_2] 40 (0, 0)) (qdp4_5 BK168) hb); have n5_ := Aside0.mk (below_step (qdp4_11 HB GE168) hb); have n6_ := Aside0.mk (hbox); have n7_ := Aside0.mk ((by rw [hg]; exact (below_size (qdp4_11 HB GE168)) : w.heap.size ≤ gb185)); have n8_ := Aside0.mk ((by rw [hg]; exact (below_size (qdp4_11 HB GE168)) : w.heap.size ≤ gb185)); have n9_ := Aside0.mk ((by rw [hg]; exact Nat.ne_of_lt (blk_lt (g := gb168) (o := .cells #[.slice A0_0 l0_0.length c0_0, .slice A0_1 l0_1.length c0_1, .int .i64 a0_2] 40 (0, 0)) (qdp4_5 BK168)) : gb168 ≠ gb185)); have n10_ := Aside0.mk ((by rw [hg]; exact Nat.ne_of_gt (blk_lt (g := gb168) (o := .cells #[.slice A0_0 l0_0.length c0_0, .slice A0_1 l0_1.length c0_1, .int .i64 a0_2] 40 (0, 0)) (qdp4_5 BK168)) : gb185 ≠ gb168)); clear HO172; clear HO175; clear HO179; clear HO182; clear BK168; clear HB; have HO172 := n0_; have HO175 := n1_; have HO179 := n2_; have HO182 := n3_; have BK168 := n4_; have HB := n5_; have BK185 := n6_; have GW185 := n7_; have GE185 := n8_; have NB168_185 := n9_; have NB185_168 := n10_; clear n0_ n1_ n2_ n3_ n4_ n5_ n6_ n7_ n8_ n9_ n10_; clear hb hbox hg; obtain ⟨Ao24, co24, eo24⟩ := Kd.R_slice HO179.out; subst eo24; have hnb25 := NB185_168.out; have hnc25 := NB168_185.out; have hcz26_0 : w23.cell? ⟨gb185, 0, none⟩ = some (.slice none 0 0) := (blk_cell BK185.out 0).trans rfl; have hcz26_1 : w23.cell? ⟨gb185, 1, none⟩ = some (.slice none 0 0) := (blk_cell BK185.out 1).trans rfl; have hcz26_2 : w23.cell? ⟨gb185, 2, none⟩ = some (.int .i64 0) := (blk_cell BK185.out 2).trans rfl; have hfz26_0 := blk_frozen BK185.out 0; have hfz26_1 := blk_frozen BK185.out 1; have hfz26_2 := blk_frozen BK185.out 2; obtain ⟨Ao27, co27, eo27⟩ := Kd.R_slice HO182.out; subst eo27; have hcz28_0 : w23.cell? ⟨gb168, 0, none⟩ = some (.slice A0_0 l0_0.length c0_0) := (blk_cell BK168.out 0).trans rfl; have hcz28_1 : w23.cell? ⟨gb168, 1, none⟩ = some (.slice A0_1 l0_1.length c0_1) := (blk_cell BK168.out 1).trans rfl; have hcz28_2 : w23.cell? ⟨gb168, 2, none⟩ = some (.int .i64 a0_2) := (blk_cell BK168.out 2).trans rfl; have hfz28_0 := blk_frozen BK168.out 0; have hfz28_1 := blk_frozen BK168.out 1; have hfz28_2 := blk_frozen BK168.out 2) | ((with_reducible refine gate_callee (f := 21) rfl ?_); refine goesL_ (some 35) rfl rfl Try.func21 qdp4_28 rfl #[.agg #[.slice A0_0 l0_0.length c0_0, .slice A0_1 l0_1.length c0_1, .int .i64 a0_2]] rfl qdp4_10 ?_; (with_reducible refine (laws_toDict.calls k _ _ l0_0 _ _ l0_1 a0_2 t186 t189 t192 _ ?side1 ?side2 ?side3 ?side4 A12.out).mono ?_); (case side1 => exact Kd.C_below HR0_0.out (qdp4_13 HB GE168 GE185)); (case side2 => exact HC0_0.out); (case side3 => exact Kd.C_below HR0_1.out (qdp4_13 HB GE168 GE185)); (case side4 => exact HC0_1.out); rintro e w29 ⟨v187, v190, rfl, ho0, ho1, hb⟩; refine ⟨_, rfl, ?_⟩; have n0_ := Aside0.mk (Kd.R_elder' (qdp4_9 HO172 BK185) (Kd.R_base ho0) hb); have n1_ := Aside0.mk (Kd.R_elder' (qdp4_9 HO175 BK185) (Kd.R_base ho1) hb); have n2_ := Aside0.mk (Kd.R_elder' (qdp4_9 HO179 BK185) (Kd.R_base ho0) hb); have n3_ := Aside0.mk (Kd.R_elder' (qdp4_9 HO182 BK185) (Kd.R_base ho1) hb); have n4_ := Aside0.mk (Kd.R_lower (Kd.R_new' (Kd.R_new' ho0 (Kd.R_lt (qdp4_9 HO172 BK185))) (Kd.R_lt (qdp4_9 HO179 BK185))) (below_size (qdp4_13 HB GE168 GE185))); have n5_ := Aside0.mk (Kd.R_lower (Kd.R_new' (Kd.R_new' ho1 (Kd.R_lt (qdp4_9 HO175 BK185))) (Kd.R_lt (qdp4_9 HO182 BK185))) (below_size (qdp4_13 HB GE168 GE185))); have n6_ := Aside0.mk (blk_below (g := gb168) (o := .cells #[.slice A0_0 l0_0.length c0_0, .slice A0_1 l0_1.length c0_1, .int .i64 a0_2] 40 (0, 0)) (qdp4_4 NB168_185 BK168) hb); have n7_ := Aside0.mk (blk_below (g := gb185) (o := .cells #[.slice Ao24 t177.length co24, .slice Ao27 t180.length co27, .int .i64 t183] 25 (0, 0)) (by (with_reducible repeat (first | refine blk_drewN ?_ _ | refine blk_drew ?_ | refine blk_alloc ?_ _)); refine blk_put (cs := #[.slice Ao24 t177.length co24, .slice Ao27 t180.length co27, .int .i64 0]) ?_ 2 _ rfl; (with_reducible repeat (first | refine blk_drewN ?_ _ | refine blk_drew ?_ | refine blk_alloc ?_ _)); refine blk_put (cs := #[.slice Ao24 t177.length co24, .slice none 0 0, .int .i64 0]) ?_ 1 _ rfl; (with_reducible repeat (first | refine blk_drewN ?_ _ | refine blk_drew ?_ | refine blk_alloc ?_ _)); refine blk_put (cs := #[.slice none 0 0, .slice none 0 0, .int .i64 0]) ?_ 0 _ rfl; (with_reducible repeat (first | refine blk_drewN ?_ _ | refine blk_drew ?_ | refine blk_alloc ?_ _)); exact BK185.out) hb); have n8_ := Aside0.mk (below_step (qdp4_13 HB GE168 GE185) hb); clear HO172; clear HO175; clear HO179; clear HO182; clear BK168; clear BK185; clear HB; have HO172 := n0_; have HO175 := n1_; have HO179 := n2_; have HO182 := n3_; have HO188 := n4_; have HO191 := n5_; have BK168 := n6_; have BK185 := n7_; have HB := n8_; clear n0_ n1_ n2_ n3_ n4_ n5_ n6_ n7_ n8_; (try clear hb); (try clear hb2); (try clear hk); (try clear hi); (try clear ho0); (try clear ho1)) | ((with_reducible refine gate_dst (N := 12) rfl ?_); refine box_event ?hg (N := 12) ?hd (cs := #[.slice none 0 0, .slice none 0 0, .int .i64 0]) (t := 25) ?hr ?_; (case hd => rfl); (case hg => rfl); (case hr => exact (by first | (go_simp; done) | (go_simp; rfl))); intro gb193 hg w30 hbox hb; have n0_ := Aside0.mk (Kd.R_below (qdp4_2 HO172) hb); have n1_ := Aside0.mk (Kd.R_below (qdp4_2 HO175) hb); have n2_ := Aside0.mk (Kd.R_below (qdp4_2 HO179) hb); have n3_ := Aside0.mk (Kd.R_below (qdp4_2 HO182) hb); have n4_ := Aside0.mk (Kd.R_below (qdp4_2 HO188) hb); have n5_ := Aside0.mk (Kd.R_below (qdp4_2 HO191) hb); have n6_ := Aside0.mk (blk_below (g := gb168) (o := .cells #[.slice A0_0 l0_0.length c0_0, .slice A0_1 l0_1.length c0_1, .int .i64 a0_2] 40 (0, 0)) (qdp4_5 BK168) hb); have n7_ := Aside0.mk (blk_below (g := gb185) (o := .cells #[.slice Ao24 t177.length co24, .slice Ao27 t180.length co27, .int .i64 t183] 25 (0, 0)) (qdp4_5 BK185) hb); have n8_ := Aside0.mk (below_step (qdp4_13 HB GE168 GE185) hb); have n9_ := Aside0.mk (hbox); have n10_ := Aside0.mk ((by rw [hg]; exact (below_size (qdp4_13 HB GE168 GE185)) : w.heap.size ≤ gb193)); have n11_ := Aside0.mk ((by rw [hg]; exact (below_size (qdp4_13 HB GE168 GE185)) : w.heap.size ≤ gb193)); have n12_ := Aside0.mk ((by rw [hg]; exact Nat.ne_of_lt (blk_lt (g := gb168) (o := .cells #[.slice A0_0 l0_0.length c0_0, .slice A0_1 l0_1.length c0_1, .int .i64 a0_2] 40 (0, 0)) (qdp4_5 BK168)) : gb168 ≠ gb193)); have n13_ := Aside0.mk ((by rw [hg]; exact Nat.ne_of_gt (blk_lt (g := gb168) (o := .cells #[.slice A0_0 l0_0.length c0_0, .slice A0_1 l0_1.length c0_1, .int .i64 a0_2] 40 (0, 0)) (qdp4_5 BK168)) : gb193 ≠ gb168)); have n14_ := Aside0.mk ((by rw [hg]; exact Nat.ne_of_lt (blk_lt (g := gb185) (o := .cells #[.slice Ao24 t177.length co24, .slice Ao27 t180.length co27, .int .i64 t183] 25 (0, 0)) (qdp4_5 BK185)) : gb185 ≠ gb193)); have n15_ := Aside0.mk ((by rw [hg]; exact Nat.ne_of_gt (blk_lt (g := gb185) (o := .cells #[.slice Ao24 t177.length co24, .slice Ao27 t180.length co27, .int .i64 t183] 25 (0, 0)) (qdp4_5 BK185)) : gb193 ≠ gb185)); clear HO172; clear HO175; clear HO179; clear HO182; clear HO188; clear HO191; clear BK168; clear BK185; clear HB; have HO172 := n0_; have HO175 := n1_; have HO179 := n2_; have HO182 := n3_; have HO188 := n4_; have HO191 := n5_; have BK168 := n6_; have BK185 := n7_; have HB := n8_; have BK193 := n9_; have GW193 := n10_; have GE193 := n11_; have NB168_193 := n12_; have NB193_168 := n13_; have NB185_193 := n14_; have NB193_185 := n15_; clear n0_ n1_ n2_ n3_ n4_ n5_ n6_ n7_ n8_ n9_ n10_ n11_ n12_ n13_ n14_ n15_; clear hb hbox hg; obtain ⟨Ao31, co31, eo31⟩ := Kd.R_slice HO188.out; subst eo31; have hnb32 := NB193_168.out; have hnc32 := NB168_193.out; have hnb33 := NB193_185.out; have hnc33 := NB185_193.out; have hcz34_0 : w30.cell? ⟨gb193, 0, none⟩ = some (.slice none 0 0) := (blk_cell BK193.out 0).trans rfl; have hcz34_1 : w30.cell? ⟨gb193, 1, none⟩ = some (.slice none 0 0) := (blk_cell BK193.out 1).trans rfl; have hcz34_2 : w30.cell? ⟨gb193, 2, none⟩ = some (.int .i64 0) := (blk_cell BK193.out 2).trans rfl; have hfz34_0 := blk_frozen BK193.out 0; have hfz34_1 := blk_frozen BK193.out 1; have hfz34_2 := blk_frozen BK193.out 2; obtain ⟨Ao35, co35, eo35⟩ := Kd.R_slice HO191.out; subst eo35) | ((with_reducible refine gate_callee (f := 36) rfl ?_); refine goesL_ (some 41) rfl rfl Try.func36 qdp4_28 rfl #[.agg #[.slice Ao31 t186.length co31, .slice Ao35 t189.length co35, .int .i64 t192], .int .u64 a1, .int .i64 a2, .int .i64 a3] rfl qdp4_10 ?_; (with_reducible refine (impl_DictPut.calls _ _ t186 _ _ t189 t192 a1 a2 a3 t194 t197 t200 t201 _ ?side1 ?side2 ?side3 ?side4 A13.out).mono ?_); (case side1 => exact (by refine (Kd.R_reads' (e := 2) (base := w.heap.size) (ok := fun k_ => ((True ∧ some k_ ≠ (.slice Ao20 t170.length co20 : Value).ownBlock) ∧ some k_ ≠ (.slice Ao24 t177.length co24 : Value).ownBlock)) (n := t186.length) (c := co31) ?_).2.2; exact (qdp4_6 HO188 BK193))); (case side2 => exact (Kd.R_reads' HO188.out).2.1); (case side3 => exact (by refine (Kd.R_reads' (e := 62) (base := w.heap.size) (ok := fun k_ => ((True ∧ some k_ ≠ (.slice Ao21 t173.length co21 : Value).ownBlock) ∧ some k_ ≠ (.slice Ao27 t180.length co27 : Value).ownBlock)) (n := t189.length) (c := co35) ?_).2.2; exact (qdp4_6 HO191 BK193))); (case side4 => exact (Kd.R_reads' HO191.out).2.1); rintro e w36 ⟨v195, v198, rfl, ho0, ho1, hb⟩; refine ⟨_, rfl, ?_⟩; have n0_ := Aside0.mk (Kd.R_elder' (qdp4_6 HO172 BK193) (Kd.R_base ho0) hb); have n1_ := Aside0.mk (Kd.R_elder' (qdp4_6 HO175 BK193) (Kd.R_base ho1) hb); have n2_ := Aside0.mk (Kd.R_elder' (qdp4_6 HO179 BK193) (Kd.R_base ho0) hb); have n3_ := Aside0.mk (Kd.R_elder' (qdp4_6 HO182 BK193) (Kd.R_base ho1) hb); have n4_ := Aside0.mk (Kd.R_elder' (qdp4_6 HO188 BK193) (Kd.R_base ho0) hb); have n5_ := Aside0.mk (Kd.R_elder' (qdp4_6 HO191 BK193) (Kd.R_base ho1) hb); have n6_ := Aside0.mk (Kd.R_lower (Kd.R_new' (Kd.R_new' (Kd.R_new' ho0 (Kd.R_lt (qdp4_6 HO172 BK193))) (Kd.R_lt (qdp4_6 HO179 BK193))) (Kd.R_lt (qdp4_6 HO188 BK193))) (below_size (qdp4_14 HB GE168 GE185 GE193))); have n7_ := Aside0.mk (Kd.R_lower (Kd.R_new' (Kd.R_new' (Kd.R_new' ho1 (Kd.R_lt (qdp4_6 HO175 BK193))) (Kd.R_lt (qdp4_6 HO182 BK193))) (Kd.R_lt (qdp4_6 HO191 BK193))) (below_size (qdp4_14 HB GE168 GE185 GE193))); have n8_ := Aside0.mk (blk_below (g := gb168) (o := .cells #[.slice A0_0 l0_0.length c0_0, .slice A0_1 l0_1.length c0_1, .int .i64 a0_2] 40 (0, 0)) (qdp4_4 NB168_193 BK168) hb); have n9_ := Aside0.mk (blk_below (g := gb185) (o := .cells #[.slice Ao24 t177.length co24, .slice Ao27 t180.length co27, .int .i64 t183] 25 (0, 0)) (qdp4_4 NB185_193 BK185) hb); have n10_ := Aside0.mk (blk_below (g := gb193) (o := .cells #[.slice Ao31 t186.length co31, .slice Ao35 t189.length co35, .int .i64 t192] 25 (0, 0)) (by (with_reducible repeat (first | refine blk_drewN ?_ _ | refine blk_drew ?_ | refine blk_alloc ?_ _)); refine blk_put (cs := #[.slice Ao31 t186.length co31, .slice Ao35 t189.length co35, .int .i64 0]) ?_ 2 _ rfl; (with_reducible repeat (first | refine blk_drewN ?_ _ | refine blk_drew ?_ | refine blk_alloc ?_ _)); refine blk_put (cs := #[.slice Ao31 t186.length co31, .slice none 0 0, .int .i64 0]) ?_ 1 _ rfl; (with_reducible repeat (first | refine blk_drewN ?_ _ | refine blk_drew ?_ | refine blk_alloc ?_ _)); refine blk_put (cs := #[.slice none 0 0, .slice none 0 0, .int .i64 0]) ?_ 0 _ rfl; (with_reducible repeat (first | refine blk_drewN ?_ _ | refine blk_drew ?_ | refine blk_alloc ?_ _)); exact BK193.out) hb); have n11_ := Aside0.mk (below_step (qdp4_14 HB GE168 GE185 GE193) hb); clear HO172; clear HO175; clear HO179; clear HO182; clear HO188; clear HO191; clear BK168; clear BK185; clear BK193; clear HB; have HO172 := n0_; have HO175 := n1_; have HO179 := n2_; have HO182 := n3_; have HO188 := n4_; have HO191 := n5_; have HO196 := n6_; have HO199 := n7_; have BK168 := n8_; have BK185 := n9_; have BK193 := n10_; have HB := n11_; clear n0_ n1_ n2_ n3_ n4_ n5_ n6_ n7_ n8_ n9_ n10_ n11_; (try clear hb); (try clear hb2); (try clear hk); (try clear hi); (try clear ho0); (try clear ho1)) | ((with_reducible refine gate_dst (N := 13) rfl ?_); refine box_event ?hg (N := 13) ?hd (cs := #[.slice none 0 0, .slice none 0 0, .int .i64 0]) (t := 25) ?hr ?_; (case hd => rfl); (case hg => rfl); (case hr => exact (by first | (go_simp; done) | (go_simp; rfl))); intro gb202 hg w37 hbox hb; have n0_ := Aside0.mk (Kd.R_below (qdp4_2 HO172) hb); have n1_ := Aside0.mk (Kd.R_below (qdp4_2 HO175) hb); have n2_ := Aside0.mk (Kd.R_below (qdp4_2 HO179) hb); have n3_ := Aside0.mk (Kd.R_below (qdp4_2 HO182) hb); have n4_ := Aside0.mk (Kd.R_below (qdp4_2 HO188) hb); have n5_ := Aside0.mk (Kd.R_below (qdp4_2 HO191) hb); have n6_ := Aside0.mk (Kd.R_below (qdp4_2 HO196) hb); have n7_ := Aside0.mk (Kd.R_below (qdp4_2 HO199) hb); have n8_ := Aside0.mk (blk_below (g := gb168) (o := .cells #[.slice A0_0 l0_0.length c0_0, .slice A0_1 l0_1.length c0_1, .int .i64 a0_2] 40 (0, 0)) (qdp4_5 BK168) hb); have n9_ := Aside0.mk (blk_below (g := gb185) (o := .cells #[.slice Ao24 t177.length co24, .slice Ao27 t180.length co27, .int .i64 t183] 25 (0, 0)) (qdp4_5 BK185) hb); have n10_ := Aside0.mk (blk_below (g := gb193) (o := .cells #[.slice Ao31 t186.length co31, .slice Ao35 t189.length co35, .int .i64 t192] 25 (0, 0)) (qdp4_5 BK193) hb); have n11_ := Aside0.mk (below_step (qdp4_14 HB GE168 GE185 GE193) hb); have n12_ := Aside0.mk (hbox); have n13_ := Aside0.mk ((by rw [hg]; exact (below_size (qdp4_14 HB GE168 GE185 GE193)) : w.heap.size ≤ gb202)); have n14_ := Aside0.mk ((by rw [hg]; exact (below_size (qdp4_14 HB GE168 GE185 GE193)) : w.heap.size ≤ gb202)); have n15_ := Aside0.mk ((by rw [hg]; exact Nat.ne_of_lt (blk_lt (g := gb168) (o := .cells #[.slice A0_0 l0_0.length c0_0, .slice A0_1 l0_1.length c0_1, .int .i64 a0_2] 40 (0, 0)) (qdp4_5 BK168)) : gb168 ≠ gb202)); have n16_ := Aside0.mk ((by rw [hg]; exact Nat.ne_of_gt (blk_lt (g := gb168) (o := .cells #[.slice A0_0 l0_0.length c0_0, .slice A0_1 l0_1.length c0_1, .int .i64 a0_2] 40 (0, 0)) (qdp4_5 BK168)) : gb202 ≠ gb168)); have n17_ := Aside0.mk ((by rw [hg]; exact Nat.ne_of_lt (blk_lt (g := gb185) (o := .cells #[.slice Ao24 t177.length co24, .slice Ao27 t180.length co27, .int .i64 t183] 25 (0, 0)) (qdp4_5 BK185)) : gb185 ≠ gb202)); have n18_ := Aside0.mk ((by rw [hg]; exact Nat.ne_of_gt (blk_lt (g := gb185) (o := .cells #[.slice Ao24 t177.length co24, .slice Ao27 t180.length co27, .int .i64 t183] 25 (0, 0)) (qdp4_5 BK185)) : gb202 ≠ gb185)); have n19_ := Aside0.mk ((by rw [hg]; exact Nat.ne_of_lt (blk_lt (g := gb193) (o := .cells #[.slice Ao31 t186.length co31, .slice Ao35 t189.length co35, .int .i64 t192] 25 (0, 0)) (qdp4_5 BK193)) : gb193 ≠ gb202)); have n20_ := Aside0.mk ((by rw [hg]; exact Nat.ne_of_gt (blk_lt (g := gb193) (o := .cells #[.slice Ao31 t186.length co31, .slice Ao35 t189.length co35, .int .i64 t192] 25 (0, 0)) (qdp4_5 BK193)) : gb202 ≠ gb193)); clear HO172; clear HO175; clear HO179; clear HO182; clear HO188; clear HO191; clear HO196; clear HO199; clear BK168; clear BK185; clear BK193; clear HB; have HO172 := n0_; have HO175 := n1_; have HO179 := n2_; have HO182 := n3_; have HO188 := n4_; have HO191 := n5_; have HO196 := n6_; have HO199 := n7_; have BK168 := n8_; have BK185 := n9_; have BK193 := n10_; have HB := n11_; have BK202 := n12_; have GW202 := n13_; have GE202 := n14_; have NB168_202 := n15_; have NB202_168 := n16_; have NB185_202 := n17_; have NB202_185 := n18_; have NB193_202 := n19_; have NB202_193 := n20_; clear n0_ n1_ n2_ n3_ n4_ n5_ n6_ n7_ n8_ n9_ n10_ n11_ n12_ n13_ n14_ n15_ n16_ n17_ n18_ n19_ n20_; clear hb hbox hg; obtain ⟨Ao38, co38, eo38⟩ := Kd.R_slice HO196.out; subst eo38; have hnb39 := NB202_168.out; have hnc39 := NB168_202.out; have hnb40 := NB202_185.out; have hnc40 := NB185_202.out; have hnb41 := NB202_193.out; have hnc41 := NB193_202.out; have hcz42_0 : w37.cell? ⟨gb202, 0, none⟩ = some (.slice none 0 0) := (blk_cell BK202.out 0).trans rfl; have hcz42_1 : w37.cell? ⟨gb202, 1, none⟩ = some (.slice none 0 0) := (blk_cell BK202.out 1).trans rfl; have hcz42_2 : w37.cell? ⟨gb202, 2, none⟩ = some (.int .i64 0) := (blk_cell BK202.out 2).trans rfl; have hfz42_0 := blk_frozen BK202.out 0; have hfz42_1 := blk_frozen BK202.out 1; have hfz42_2 := blk_frozen BK202.out 2; obtain ⟨Ao43, co43, eo43⟩ := Kd.R_slice HO199.out; subst eo43))
  (try simp only [Act.put, List.setIfInBounds_toArray, List.set_cons_zero, List.set_cons_succ])
  go_cut [52] (fun v52 wc => ∃ (kq : Nat) (x52_13 : Bool), v52 = .bool x52_13 ∧ Aside0 (laws_FnExactDictPut.j0 kq a1 a2 a3 t184 t201 x52_13 l0_0 l0_1 a0_2 t177 t180 t183 t186 t189 t192 t194 t197 t200 = some r) ∧ Aside0 (kq ≤ k) ∧ Aside0 (Kd.R (Kd.int .i64) 2 wc w.heap.size (fun k_ => some k_ ≠ ((.slice Ao31 t186.length co31) : Value).ownBlock ∧ some k_ ≠ ((.slice Ao38 t194.length co38) : Value).ownBlock) (.slice Ao24 t177.length co24) t177) ∧ Aside0 (Kd.R k62 62 wc w.heap.size (fun k_ => some k_ ≠ ((.slice Ao35 t189.length co35) : Value).ownBlock ∧ some k_ ≠ ((.slice Ao43 t197.length co43) : Value).ownBlock) (.slice Ao27 t180.length co27) t180) ∧ Aside0 (Kd.R (Kd.int .i64) 2 wc w.heap.size (fun k_ => some k_ ≠ ((.slice Ao24 t177.length co24) : Value).ownBlock ∧ some k_ ≠ ((.slice Ao38 t194.length co38) : Value).ownBlock) (.slice Ao31 t186.length co31) t186) ∧ Aside0 (Kd.R k62 62 wc w.heap.size (fun k_ => some k_ ≠ ((.slice Ao27 t180.length co27) : Value).ownBlock ∧ some k_ ≠ ((.slice Ao43 t197.length co43) : Value).ownBlock) (.slice Ao35 t189.length co35) t189) ∧ Aside0 (Kd.R (Kd.int .i64) 2 wc w.heap.size (fun k_ => some k_ ≠ ((.slice Ao24 t177.length co24) : Value).ownBlock ∧ some k_ ≠ ((.slice Ao31 t186.length co31) : Value).ownBlock) (.slice Ao38 t194.length co38) t194) ∧ Aside0 (Kd.R k62 62 wc w.heap.size (fun k_ => some k_ ≠ ((.slice Ao27 t180.length co27) : Value).ownBlock ∧ some k_ ≠ ((.slice Ao35 t189.length co35) : Value).ownBlock) (.slice Ao43 t197.length co43) t197) ∧ Aside0 (wc.heap[gb168]? = some (.cells #[(.slice A0_0 l0_0.length c0_0), (.slice A0_1 l0_1.length c0_1), .int .i64 a0_2] 40 (0, 0))) ∧ Aside0 (wc.heap[gb185]? = some (.cells #[(.slice Ao24 t177.length co24), (.slice Ao27 t180.length co27), .int .i64 t183] 25 (0, 0))) ∧ Aside0 (wc.heap[gb193]? = some (.cells #[(.slice Ao31 t186.length co31), (.slice Ao35 t189.length co35), .int .i64 t192] 25 (0, 0))) ∧ Aside0 (wc.heap[gb202]? = some (.cells #[(.slice Ao38 t194.length co38), (.slice Ao43 t197.length co43), .int .i64 t200] 25 (0, 0))) ∧ Aside0 (Below w.heap.size w wc))
  case first =>
   have H := HC14.out
   clear HC14
   replace H := Option.bind_eq_some_iff.mp H
   obtain ⟨t203, A440, H⟩ := H
   replace H : (if t203 = true then (laws_FnExactDictPut.j0 k a1 a2 a3 t184 t201 (t201 != t184) l0_0 l0_1 a0_2 t177 t180 t183 t186 t189 t192 t194 t197 t200) else (laws_FnExactDictPut.j0 k a1 a2 a3 t184 t201 true l0_0 l0_1 a0_2 t177 t180 t183 t186 t189 t192 t194 t197 t200)) = some r := H
   have A44 := Aside0.mk A440
   clear A440
   by_cases c45 : t203 = true
   ·subst c45
    have H1 : (laws_FnExactDictPut.j0 k a1 a2 a3 t184 t201 (t201 != t184) l0_0 l0_1 a0_2 t177 t180 t183 t186 t189 t192 t194 t197 t200) = some r := by rw [if_pos rfl] at H; exact H
    clear H
    have H := H1
    clear H1
    have H' := Aside0.mk H
    clear H
    have hnb46 := NB202_168.out
    have hnc46 := NB168_202.out
    have hnb47 := NB202_185.out
    have hnc47 := NB185_202.out
    have hnb48 := NB202_193.out
    have hnc48 := NB193_202.out
    have hcz49_0 : w37.cell? ⟨gb202, 0, none⟩ = some (.slice none 0 0) := (blk_cell BK202.out 0).trans rfl
    have hcz49_1 : w37.cell? ⟨gb202, 1, none⟩ = some (.slice none 0 0) := (blk_cell BK202.out 1).trans rfl
    have hcz49_2 : w37.cell? ⟨gb202, 2, none⟩ = some (.int .i64 0) := (blk_cell BK202.out 2).trans rfl
    have hfz49_0 := blk_frozen BK202.out 0
    have hfz49_1 := blk_frozen BK202.out 1
    have hfz49_2 := blk_frozen BK202.out 2
    have hnb50 := NB185_168.out
    have hnc50 := NB168_185.out
    have hnb51 := NB185_193.out
    have hnc51 := NB193_185.out
    have hcz52_0 : w37.cell? ⟨gb185, 0, none⟩ = some (.slice Ao24 t177.length co24) := (blk_cell BK185.out 0).trans rfl
    have hcz52_1 : w37.cell? ⟨gb185, 1, none⟩ = some (.slice Ao27 t180.length co27) := (blk_cell BK185.out 1).trans rfl
    have hcz52_2 : w37.cell? ⟨gb185, 2, none⟩ = some (.int .i64 t183) := (blk_cell BK185.out 2).trans rfl
    have hfz52_0 := blk_frozen BK185.out 0
    have hfz52_1 := blk_frozen BK185.out 1
    have hfz52_2 := blk_frozen BK185.out 2
    go_wp2_with (first | ((with_reducible refine gate_callee (f := 13) rfl ?_); refine goesL_ (some 46) rfl rfl Try.func13 qdp4_28 rfl #[.agg #[.slice Ao38 t194.length co38, .slice Ao43 t197.length co43, .int .i64 t200], .agg #[.slice Ao24 t177.length co24, .slice Ao27 t180.length co27, .int .i64 t183]] rfl qdp4_10 ?_; (with_reducible refine (laws_eqDict.calls k _ _ t194 _ _ t197 t200 _ _ t177 _ _ t180 t183 true _ ?side1 ?side2 ?side3 ?side4 ?side5 ?side6 ?side7 ?side8 A44.out).mono ?_); (case side1 => exact qdp4_24); (case side2 => exact (Kd.R_reads' HO196.out).2.1); (case side3 => exact qdp4_22); (case side4 => exact (Kd.R_reads' HO199.out).2.1); (case side5 => exact qdp4_25); (case side6 => exact (Kd.R_reads' HO179.out).2.1); (case side7 => exact qdp4_23); (case side8 => exact (Kd.R_reads' HO182.out).2.1); rintro e w53 ⟨rfl, hb⟩; refine ⟨_, rfl, ?_⟩; have n0_ := Aside0.mk (Kd.R_below (qdp4_3 HO172 BK202) hb); have n1_ := Aside0.mk (Kd.R_below (qdp4_3 HO175 BK202) hb); have n2_ := Aside0.mk (Kd.R_below (qdp4_3 HO179 BK202) hb); have n3_ := Aside0.mk (Kd.R_below (qdp4_3 HO182 BK202) hb); have n4_ := Aside0.mk (Kd.R_below (qdp4_3 HO188 BK202) hb); have n5_ := Aside0.mk (Kd.R_below (qdp4_3 HO191 BK202) hb); have n6_ := Aside0.mk (Kd.R_below (qdp4_3 HO196 BK202) hb); have n7_ := Aside0.mk (Kd.R_below (qdp4_3 HO199 BK202) hb); have n8_ := Aside0.mk (blk_below (g := gb168) (o := .cells #[.slice A0_0 l0_0.length c0_0, .slice A0_1 l0_1.length c0_1, .int .i64 a0_2] 40 (0, 0)) (qdp4_4 NB168_202 BK168) hb); have n9_ := Aside0.mk (blk_below (g := gb185) (o := .cells #[.slice Ao24 t177.length co24, .slice Ao27 t180.length co27, .int .i64 t183] 25 (0, 0)) (qdp4_4 NB185_202 BK185) hb); have n10_ := Aside0.mk (blk_below (g := gb193) (o := .cells #[.slice Ao31 t186.length co31, .slice Ao35 t189.length co35, .int .i64 t192] 25 (0, 0)) (qdp4_4 NB193_202 BK193) hb); have n11_ := Aside0.mk (blk_below (g := gb202) (o := .cells #[.slice Ao38 t194.length co38, .slice Ao43 t197.length co43, .int .i64 t200] 25 (0, 0)) (qdp4_16 BK202) hb); have n12_ := Aside0.mk (below_step (qdp4_7 HB GE168 GE185 GE193 GE202) hb); clear HO172; clear HO175; clear HO179; clear HO182; clear HO188; clear HO191; clear HO196; clear HO199; clear BK168; clear BK185; clear BK193; clear BK202; clear HB; have HO172 := n0_; have HO175 := n1_; have HO179 := n2_; have HO182 := n3_; have HO188 := n4_; have HO191 := n5_; have HO196 := n6_; have HO199 := n7_; have BK168 := n8_; have BK185 := n9_; have BK193 := n10_; have BK202 := n11_; have HB := n12_; clear n0_ n1_ n2_ n3_ n4_ n5_ n6_ n7_ n8_ n9_ n10_ n11_ n12_; (try clear hb); (try clear hb2); (try clear hk); (try clear hi)))
    go_meet
    case rel => exact ⟨_, ((t201 != t184)), qdp4_27, H', ⟨by first | omega | exact Nat.le_refl _⟩, ⟨by (with_reducible repeat (first | apply Kd.R_alloc | apply Kd.R_drewN | apply Kd.R_drew)); exact Kd.R_mono HO179.out (fun _ hk => ⟨hk.1.2, hk.2⟩)⟩, ⟨by (with_reducible repeat (first | apply Kd.R_alloc | apply Kd.R_drewN | apply Kd.R_drew)); exact Kd.R_mono HO182.out (fun _ hk => ⟨hk.1.2, hk.2⟩)⟩, ⟨by (with_reducible repeat (first | apply Kd.R_alloc | apply Kd.R_drewN | apply Kd.R_drew)); exact Kd.R_mono HO188.out (fun _ hk => ⟨hk.1.2, hk.2⟩)⟩, ⟨by (with_reducible repeat (first | apply Kd.R_alloc | apply Kd.R_drewN | apply Kd.R_drew)); exact Kd.R_mono HO191.out (fun _ hk => ⟨hk.1.2, hk.2⟩)⟩, ⟨by (with_reducible repeat (first | apply Kd.R_alloc | apply Kd.R_drewN | apply Kd.R_drew)); exact Kd.R_mono HO196.out (fun _ hk => ⟨hk.1.2, hk.2⟩)⟩, ⟨by (with_reducible repeat (first | apply Kd.R_alloc | apply Kd.R_drewN | apply Kd.R_drew)); exact Kd.R_mono HO199.out (fun _ hk => ⟨hk.1.2, hk.2⟩)⟩, ⟨by (with_reducible repeat (first | refine blk_drewN ?_ _ | refine blk_drew ?_ | refine blk_alloc ?_ _)); exact BK168.out⟩, ⟨by (with_reducible repeat (first | refine blk_drewN ?_ _ | refine blk_drew ?_ | refine blk_alloc ?_ _)); exact BK185.out⟩, ⟨by (with_reducible repeat (first | refine blk_drewN ?_ _ | refine blk_drew ?_ | refine blk_alloc ?_ _)); exact BK193.out⟩, ⟨by (with_reducible repeat (first | refine blk_drewN ?_ _ | refine blk_drew ?_ | refine blk_alloc ?_ _)); exact BK202.out⟩, ⟨by repeat (first | (with_reducible first | exact HB.out | apply below_alloc | apply pw_below_drewN | apply below_drew1 | refine below_set ?_ GE168.out | refine below_set ?_ GE185.out | refine below_set ?_ GE193.out | refine below_set ?_ GE202.out) | exact HB.out)⟩⟩
   ·replace c45 := Bool.eq_false_iff.mpr c45
    subst c45
    have H1 : (laws_FnExactDictPut.j0 k a1 a2 a3 t184 t201 true l0_0 l0_1 a0_2 t177 t180 t183 t186 t189 t192 t194 t197 t200) = some r := by rw [if_neg (show ¬ (false = true) by decide)] at H; exact H
    clear H
    have H := H1
    clear H1
    have H' := Aside0.mk H
    clear H
    have hnb54 := NB202_168.out
    have hnc54 := NB168_202.out
    have hnb55 := NB202_185.out
    have hnc55 := NB185_202.out
    have hnb56 := NB202_193.out
    have hnc56 := NB193_202.out
    have hcz57_0 : w37.cell? ⟨gb202, 0, none⟩ = some (.slice none 0 0) := (blk_cell BK202.out 0).trans rfl
    have hcz57_1 : w37.cell? ⟨gb202, 1, none⟩ = some (.slice none 0 0) := (blk_cell BK202.out 1).trans rfl
    have hcz57_2 : w37.cell? ⟨gb202, 2, none⟩ = some (.int .i64 0) := (blk_cell BK202.out 2).trans rfl
    have hfz57_0 := blk_frozen BK202.out 0
    have hfz57_1 := blk_frozen BK202.out 1
    have hfz57_2 := blk_frozen BK202.out 2
    have hnb58 := NB185_168.out
    have hnc58 := NB168_185.out
    have hnb59 := NB185_193.out
    have hnc59 := NB193_185.out
    have hcz60_0 : w37.cell? ⟨gb185, 0, none⟩ = some (.slice Ao24 t177.length co24) := (blk_cell BK185.out 0).trans rfl
    have hcz60_1 : w37.cell? ⟨gb185, 1, none⟩ = some (.slice Ao27 t180.length co27) := (blk_cell BK185.out 1).trans rfl
    have hcz60_2 : w37.cell? ⟨gb185, 2, none⟩ = some (.int .i64 t183) := (blk_cell BK185.out 2).trans rfl
    have hfz60_0 := blk_frozen BK185.out 0
    have hfz60_1 := blk_frozen BK185.out 1
    have hfz60_2 := blk_frozen BK185.out 2
    go_wp2_with (first | ((with_reducible refine gate_callee (f := 13) rfl ?_); refine goesL_ (some 46) rfl rfl Try.func13 qdp4_28 rfl #[.agg #[.slice Ao38 t194.length co38, .slice Ao43 t197.length co43, .int .i64 t200], .agg #[.slice Ao24 t177.length co24, .slice Ao27 t180.length co27, .int .i64 t183]] rfl qdp4_10 ?_; (with_reducible refine (laws_eqDict.calls k _ _ t194 _ _ t197 t200 _ _ t177 _ _ t180 t183 false _ ?side1 ?side2 ?side3 ?side4 ?side5 ?side6 ?side7 ?side8 A44.out).mono ?_); (case side1 => exact qdp4_24); (case side2 => exact (Kd.R_reads' HO196.out).2.1); (case side3 => exact qdp4_22); (case side4 => exact (Kd.R_reads' HO199.out).2.1); (case side5 => exact qdp4_25); (case side6 => exact (Kd.R_reads' HO179.out).2.1); (case side7 => exact qdp4_23); (case side8 => exact (Kd.R_reads' HO182.out).2.1); rintro e w61 ⟨rfl, hb⟩; refine ⟨_, rfl, ?_⟩; have n0_ := Aside0.mk (Kd.R_below (qdp4_3 HO172 BK202) hb); have n1_ := Aside0.mk (Kd.R_below (qdp4_3 HO175 BK202) hb); have n2_ := Aside0.mk (Kd.R_below (qdp4_3 HO179 BK202) hb); have n3_ := Aside0.mk (Kd.R_below (qdp4_3 HO182 BK202) hb); have n4_ := Aside0.mk (Kd.R_below (qdp4_3 HO188 BK202) hb); have n5_ := Aside0.mk (Kd.R_below (qdp4_3 HO191 BK202) hb); have n6_ := Aside0.mk (Kd.R_below (qdp4_3 HO196 BK202) hb); have n7_ := Aside0.mk (Kd.R_below (qdp4_3 HO199 BK202) hb); have n8_ := Aside0.mk (blk_below (g := gb168) (o := .cells #[.slice A0_0 l0_0.length c0_0, .slice A0_1 l0_1.length c0_1, .int .i64 a0_2] 40 (0, 0)) (qdp4_4 NB168_202 BK168) hb); have n9_ := Aside0.mk (blk_below (g := gb185) (o := .cells #[.slice Ao24 t177.length co24, .slice Ao27 t180.length co27, .int .i64 t183] 25 (0, 0)) (qdp4_4 NB185_202 BK185) hb); have n10_ := Aside0.mk (blk_below (g := gb193) (o := .cells #[.slice Ao31 t186.length co31, .slice Ao35 t189.length co35, .int .i64 t192] 25 (0, 0)) (qdp4_4 NB193_202 BK193) hb); have n11_ := Aside0.mk (blk_below (g := gb202) (o := .cells #[.slice Ao38 t194.length co38, .slice Ao43 t197.length co43, .int .i64 t200] 25 (0, 0)) (qdp4_16 BK202) hb); have n12_ := Aside0.mk (below_step (qdp4_7 HB GE168 GE185 GE193 GE202) hb); clear HO172; clear HO175; clear HO179; clear HO182; clear HO188; clear HO191; clear HO196; clear HO199; clear BK168; clear BK185; clear BK193; clear BK202; clear HB; have HO172 := n0_; have HO175 := n1_; have HO179 := n2_; have HO182 := n3_; have HO188 := n4_; have HO191 := n5_; have HO196 := n6_; have HO199 := n7_; have BK168 := n8_; have BK185 := n9_; have BK193 := n10_; have BK202 := n11_; have HB := n12_; clear n0_ n1_ n2_ n3_ n4_ n5_ n6_ n7_ n8_ n9_ n10_ n11_ n12_; (try clear hb); (try clear hb2); (try clear hk); (try clear hi)))
    go_meet
    case rel => exact ⟨_, (true), qdp4_27, H', ⟨by first | omega | exact Nat.le_refl _⟩, ⟨by (with_reducible repeat (first | apply Kd.R_alloc | apply Kd.R_drewN | apply Kd.R_drew)); exact Kd.R_mono HO179.out (fun _ hk => ⟨hk.1.2, hk.2⟩)⟩, ⟨by (with_reducible repeat (first | apply Kd.R_alloc | apply Kd.R_drewN | apply Kd.R_drew)); exact Kd.R_mono HO182.out (fun _ hk => ⟨hk.1.2, hk.2⟩)⟩, ⟨by (with_reducible repeat (first | apply Kd.R_alloc | apply Kd.R_drewN | apply Kd.R_drew)); exact Kd.R_mono HO188.out (fun _ hk => ⟨hk.1.2, hk.2⟩)⟩, ⟨by (with_reducible repeat (first | apply Kd.R_alloc | apply Kd.R_drewN | apply Kd.R_drew)); exact Kd.R_mono HO191.out (fun _ hk => ⟨hk.1.2, hk.2⟩)⟩, ⟨by (with_reducible repeat (first | apply Kd.R_alloc | apply Kd.R_drewN | apply Kd.R_drew)); exact Kd.R_mono HO196.out (fun _ hk => ⟨hk.1.2, hk.2⟩)⟩, ⟨by (with_reducible repeat (first | apply Kd.R_alloc | apply Kd.R_drewN | apply Kd.R_drew)); exact Kd.R_mono HO199.out (fun _ hk => ⟨hk.1.2, hk.2⟩)⟩, ⟨by (with_reducible repeat (first | refine blk_drewN ?_ _ | refine blk_drew ?_ | refine blk_alloc ?_ _)); exact BK168.out⟩, ⟨by (with_reducible repeat (first | refine blk_drewN ?_ _ | refine blk_drew ?_ | refine blk_alloc ?_ _)); exact BK185.out⟩, ⟨by (with_reducible repeat (first | refine blk_drewN ?_ _ | refine blk_drew ?_ | refine blk_alloc ?_ _)); exact BK193.out⟩, ⟨by (with_reducible repeat (first | refine blk_drewN ?_ _ | refine blk_drew ?_ | refine blk_alloc ?_ _)); exact BK202.out⟩, ⟨by repeat (first | (with_reducible first | exact HB.out | apply below_alloc | apply pw_below_drewN | apply below_drew1 | refine below_set ?_ GE168.out | refine below_set ?_ GE185.out | refine below_set ?_ GE193.out | refine below_set ?_ GE202.out) | exact HB.out)⟩⟩
  case rest =>
   clear HC14
   try clear c1
   try clear c2
   try clear p2
   try clear c3
   try clear c4
   try clear c5
   try clear c6
   try clear c6b0
   try clear c10
   try clear c13
   try clear c19
   try clear c21
   try clear c25
   try clear c32
   try clear c33
   try clear c36
   try clear c38
   try clear c39
   try clear c40
   try clear c41
   try clear c45
   try clear c46
   try clear c47
   try clear c48
   try clear c50
   try clear c51
   try clear c54
   try clear c55
   try clear c56
   try clear c58
   try clear c59
   try clear hcz16_0
   try clear hcz16_1
   try clear hcz16_2
   try clear hcz18_0
   try clear hcz18_1
   try clear hcz18_2
   try clear hcz26_0
   try clear hcz26_1
   try clear hcz26_2
   try clear hcz28_0
   try clear hcz28_1
   try clear hcz28_2
   try clear hcz34_0
   try clear hcz34_1
   try clear hcz34_2
   try clear hcz42_0
   try clear hcz42_1
   try clear hcz42_2
   try clear hcz49_0
   try clear hcz49_1
   try clear hcz49_2
   try clear hcz52_0
   try clear hcz52_1
   try clear hcz52_2
   try clear hcz57_0
   try clear hcz57_1
   try clear hcz57_2
   try clear hcz60_0
   try clear hcz60_1
   try clear hcz60_2
   try clear hcz8_0
   try clear hcz8_1
   try clear hcz8_2
   try clear hfz16_0
   try clear hfz16_1
   try clear hfz16_2
   try clear hfz18_0
   try clear hfz18_1
   try clear hfz18_2
   try clear hfz26_0
   try clear hfz26_1
   try clear hfz26_2
   try clear hfz28_0
   try clear hfz28_1
   try clear hfz28_2
   try clear hfz34_0
   try clear hfz34_1
   try clear hfz34_2
   try clear hfz42_0
   try clear hfz42_1
   try clear hfz42_2
   try clear hfz49_0
   try clear hfz49_1
   try clear hfz49_2
   try clear hfz52_0
   try clear hfz52_1
   try clear hfz52_2
   try clear hfz57_0
   try clear hfz57_1
   try clear hfz57_2
   try clear hfz60_0
   try clear hfz60_1
   try clear hfz60_2
   try clear hfz8_0
   try clear hfz8_1
   try clear hfz8_2
   obtain ⟨kq, x52_13, rfl, HA, HJ13, HO_186000, HO_186001, HO_194000, HO_194001, HO_203000, HO_203001, BK168, BK185, BK193, BK202, HB⟩ := hcut
   cases kq with
   | zero => exact absurd HA.out (by simp [laws_FnExactDictPut.j0])
   | succ kj13 =>
    have H := HA.out
    clear HA
    simp only [laws_FnExactDictPut.j0] at H
    by_cases c62 : x52_13 = true
    ·subst c62
     have H1 : (none) = some r := by rw [if_pos rfl] at H; exact H
     clear H
     have H := H1
     clear H1
     exact absurd H (by simp)
    ·replace c62 := Bool.eq_false_iff.mpr c62
     subst c62
     have H1 : ((laws_toDict.f kj13 l0_0 l0_1 a0_2).bind fun bt204 => ((laws_eqDict.f kj13 t186 t189 t192 bt204.1 bt204.2.1 bt204.2.2).bind fun t211 => (if t211 = true then ((laws_markDict.f kj13 t186 t189 t192 1).bind fun bt212 => (if bt212.1 < 0 then (laws_FnExactDictPut.j1 kj13 a1 a2 a3 t184 true l0_0 l0_1 a0_2 t177 t180 t183 t194 t197 t200) else ((laws_eqDict.f kj13 t194 t197 t200 t177 t180 t183).bind fun t215 => (if t215 = true then (laws_FnExactDictPut.j1 kj13 a1 a2 a3 t184 (t201 != t184) l0_0 l0_1 a0_2 t177 t180 t183 t194 t197 t200) else (laws_FnExactDictPut.j1 kj13 a1 a2 a3 t184 true l0_0 l0_1 a0_2 t177 t180 t183 t194 t197 t200))))) else (none)))) = some r := by rw [if_neg (show ¬ (false = true) by decide)] at H; exact H
     clear H
     have H := H1
     clear H1
     replace H := Option.bind_eq_some_iff.mp H
     obtain ⟨⟨t204, t207, t210⟩, A630, H⟩ := H
     replace H : ((laws_eqDict.f kj13 t186 t189 t192 t204 t207 t210).bind fun t211 => (if t211 = true then ((laws_markDict.f kj13 t186 t189 t192 1).bind fun bt212 => (if bt212.1 < 0 then (laws_FnExactDictPut.j1 kj13 a1 a2 a3 t184 true l0_0 l0_1 a0_2 t177 t180 t183 t194 t197 t200) else ((laws_eqDict.f kj13 t194 t197 t200 t177 t180 t183).bind fun t215 => (if t215 = true then (laws_FnExactDictPut.j1 kj13 a1 a2 a3 t184 (t201 != t184) l0_0 l0_1 a0_2 t177 t180 t183 t194 t197 t200) else (laws_FnExactDictPut.j1 kj13 a1 a2 a3 t184 true l0_0 l0_1 a0_2 t177 t180 t183 t194 t197 t200))))) else (none))) = some r := H
     have A63 := Aside0.mk A630
     clear A630
     replace H := Option.bind_eq_some_iff.mp H
     obtain ⟨t211, A640, H⟩ := H
     replace H : (if t211 = true then ((laws_markDict.f kj13 t186 t189 t192 1).bind fun bt212 => (if bt212.1 < 0 then (laws_FnExactDictPut.j1 kj13 a1 a2 a3 t184 true l0_0 l0_1 a0_2 t177 t180 t183 t194 t197 t200) else ((laws_eqDict.f kj13 t194 t197 t200 t177 t180 t183).bind fun t215 => (if t215 = true then (laws_FnExactDictPut.j1 kj13 a1 a2 a3 t184 (t201 != t184) l0_0 l0_1 a0_2 t177 t180 t183 t194 t197 t200) else (laws_FnExactDictPut.j1 kj13 a1 a2 a3 t184 true l0_0 l0_1 a0_2 t177 t180 t183 t194 t197 t200))))) else (none)) = some r := H
     have A64 := Aside0.mk A640
     clear A640
     by_cases c65 : t211 = true
     ·subst c65
      have H1 : ((laws_markDict.f kj13 t186 t189 t192 1).bind fun bt212 => (if bt212.1 < 0 then (laws_FnExactDictPut.j1 kj13 a1 a2 a3 t184 true l0_0 l0_1 a0_2 t177 t180 t183 t194 t197 t200) else ((laws_eqDict.f kj13 t194 t197 t200 t177 t180 t183).bind fun t215 => (if t215 = true then (laws_FnExactDictPut.j1 kj13 a1 a2 a3 t184 (t201 != t184) l0_0 l0_1 a0_2 t177 t180 t183 t194 t197 t200) else (laws_FnExactDictPut.j1 kj13 a1 a2 a3 t184 true l0_0 l0_1 a0_2 t177 t180 t183 t194 t197 t200))))) = some r := by rw [if_pos rfl] at H; exact H
      clear H
      have H := H1
      clear H1
      replace H := Option.bind_eq_some_iff.mp H
      obtain ⟨⟨t212, t213, t214⟩, A660, H⟩ := H
      replace H : (if t212 < 0 then (laws_FnExactDictPut.j1 kj13 a1 a2 a3 t184 true l0_0 l0_1 a0_2 t177 t180 t183 t194 t197 t200) else ((laws_eqDict.f kj13 t194 t197 t200 t177 t180 t183).bind fun t215 => (if t215 = true then (laws_FnExactDictPut.j1 kj13 a1 a2 a3 t184 (t201 != t184) l0_0 l0_1 a0_2 t177 t180 t183 t194 t197 t200) else (laws_FnExactDictPut.j1 kj13 a1 a2 a3 t184 true l0_0 l0_1 a0_2 t177 t180 t183 t194 t197 t200)))) = some r := H
      have A66 := Aside0.mk A660
      clear A660
      have HC67 := Aside0.mk H
      clear H
      try go_wp2
      have n0_ := Aside0.mk (Kd.R_drew HO_186000.out)
      have n1_ := Aside0.mk (Kd.R_drew HO_186001.out)
      have n2_ := Aside0.mk (Kd.R_drew HO_194000.out)
      have n3_ := Aside0.mk (Kd.R_drew HO_194001.out)
      have n4_ := Aside0.mk (Kd.R_drew HO_203000.out)
      have n5_ := Aside0.mk (Kd.R_drew HO_203001.out)
      have n6_ := Aside0.mk (blk_drew BK168.out)
      have n7_ := Aside0.mk (blk_drew BK185.out)
      have n8_ := Aside0.mk (blk_drew BK193.out)
      have n9_ := Aside0.mk (blk_drew BK202.out)
      have n10_ := Aside0.mk (below_drew1 HB.out)
      clear HO_186000
      clear HO_186001
      clear HO_194000
      clear HO_194001
      clear HO_203000
      clear HO_203001
      clear BK168
      clear BK185
      clear BK193
      clear BK202
      clear HB
      have HO_186000 := n0_
      have HO_186001 := n1_
      have HO_194000 := n2_
      have HO_194001 := n3_
      have HO_203000 := n4_
      have HO_203001 := n5_
      have BK168 := n6_
      have BK185 := n7_
      have BK193 := n8_
      have BK202 := n9_
      have HB := n10_
      clear n0_ n1_ n2_ n3_ n4_ n5_ n6_ n7_ n8_ n9_ n10_
      refine start_ (n := 5) (S := fun w' => w'.cell? ⟨gb193, 0, none⟩ = some (.slice Ao31 t186.length co31) ∧ w'.cell? ⟨gb193, 1, none⟩ = some (.slice Ao35 t189.length co35) ∧ w'.cell? ⟨gb193, 2, none⟩ = some (.int .i64 t192) ∧ w'.cell? ⟨gb168, 0, none⟩ = some (.slice A0_0 l0_0.length c0_0) ∧ w'.cell? ⟨gb168, 1, none⟩ = some (.slice A0_1 l0_1.length c0_1) ∧ w'.cell? ⟨gb168, 2, none⟩ = some (.int .i64 a0_2)) (ds := []) #[false, false, false, false, false] qdp4_28 rfl rfl ⟨(blk_cell BK193.out 0).trans rfl, (blk_cell BK193.out 1).trans rfl, (blk_cell BK193.out 2).trans rfl, (blk_cell BK168.out 0).trans rfl, (blk_cell BK168.out 1).trans rfl, (blk_cell BK168.out 2).trans rfl⟩ (fun hHeld => ?_)
      generalize wc.drew = w68 at HO_186000 HO_186001 HO_194000 HO_194001 HO_203000 HO_203001 BK168 BK185 BK193 BK202 HB hHeld ⊢
      refine take_ (i := 0) (N := some 53) (v := ?_) (a' := ?_) #[true, false, false, false, false] rfl rfl qdp4_28 (fun _ _ _ h => h) (Or.inl ⟨by rfl, ?_⟩) hHeld ?_ ?_
      rotate_left
      ·rintro w' ⟨s0, s1, s2, s3, s4, s5⟩
       go_simp
       with_reducible rfl
      rotate_left
      ·simp only [Act.put, List.setIfInBounds_toArray, List.set_cons_zero, List.set_cons_succ, i64_w, i32_w]
       rfl
      refine take_ (i := 1) (N := some 54) (v := ?_) (a' := ?_) #[true, true, false, false, false] rfl rfl qdp4_28 (fun _ _ _ h => h) (Or.inl ⟨by rfl, ?_⟩) hHeld ?_ ?_
      rotate_left
      ·rintro w' ⟨s0, s1, s2, s3, s4, s5⟩
       go_simp
       with_reducible rfl
      rotate_left
      ·simp only [Act.put, List.setIfInBounds_toArray, List.set_cons_zero, List.set_cons_succ, i64_w, i32_w]
       rfl
      refine one_ (i := 2) (N := some 55) #[true, true, true, false, false] rfl rfl qdp4_28 (by decide) (fun K hK => ?_)
      refine goes_ Try.func21 qdp4_28 rfl #[.agg #[.slice A0_0 l0_0.length c0_0, .slice A0_1 l0_1.length c0_1, .int .i64 a0_2]] (by rfl) rfl rfl qdp4_10 ?_
      with_reducible refine (laws_toDict.calls kj13 _ _ l0_0 _ _ l0_1 a0_2 t204 t207 t210 _ ?side1 ?side2 ?side3 ?side4 A63.out).mono ?_
      (case side1 => exact (qdp4_12 HR0_0 HB))
      (case side2 => exact HC0_0.out)
      (case side3 => exact (qdp4_12 HR0_1 HB))
      (case side4 => exact HC0_1.out)
      rintro e w69 ⟨v205, v208, rfl, ho0, ho1, hb⟩
      refine ⟨_, rfl, ?_⟩
      have n0_ := Aside0.mk (Kd.R_elder' (qdp4_2 HO_186000) (Kd.R_base ho0) hb)
      have n1_ := Aside0.mk (Kd.R_elder' (qdp4_2 HO_186001) (Kd.R_base ho1) hb)
      have n2_ := Aside0.mk (Kd.R_elder' (qdp4_2 HO_194000) (Kd.R_base ho0) hb)
      have n3_ := Aside0.mk (Kd.R_elder' (qdp4_2 HO_194001) (Kd.R_base ho1) hb)
      have n4_ := Aside0.mk (Kd.R_elder' (qdp4_2 HO_203000) (Kd.R_base ho0) hb)
      have n5_ := Aside0.mk (Kd.R_elder' (qdp4_2 HO_203001) (Kd.R_base ho1) hb)
      have n6_ := Aside0.mk (Kd.R_lower (Kd.R_new' (Kd.R_new' (Kd.R_new' ho0 (Kd.R_lt (qdp4_2 HO_186000))) (Kd.R_lt (qdp4_2 HO_194000))) (Kd.R_lt (qdp4_2 HO_203000))) (below_size (qdp4_7 HB GE168 GE185 GE193 GE202)))
      have n7_ := Aside0.mk (Kd.R_lower (Kd.R_new' (Kd.R_new' (Kd.R_new' ho1 (Kd.R_lt (qdp4_2 HO_186001))) (Kd.R_lt (qdp4_2 HO_194001))) (Kd.R_lt (qdp4_2 HO_203001))) (below_size (qdp4_7 HB GE168 GE185 GE193 GE202)))
      have n8_ := Aside0.mk (blk_below (g := gb168) (o := .cells #[.slice A0_0 l0_0.length c0_0, .slice A0_1 l0_1.length c0_1, .int .i64 a0_2] 40 (0, 0)) (qdp4_5 BK168) hb)
      have n9_ := Aside0.mk (blk_below (g := gb185) (o := .cells #[.slice Ao24 t177.length co24, .slice Ao27 t180.length co27, .int .i64 t183] 25 (0, 0)) (qdp4_5 BK185) hb)
      have n10_ := Aside0.mk (blk_below (g := gb193) (o := .cells #[.slice Ao31 t186.length co31, .slice Ao35 t189.length co35, .int .i64 t192] 25 (0, 0)) (qdp4_5 BK193) hb)
      have n11_ := Aside0.mk (blk_below (g := gb202) (o := .cells #[.slice Ao38 t194.length co38, .slice Ao43 t197.length co43, .int .i64 t200] 25 (0, 0)) (qdp4_5 BK202) hb)
      have n12_ := Aside0.mk (below_step (qdp4_7 HB GE168 GE185 GE193 GE202) hb)
      clear HO_186000
      clear HO_186001
      clear HO_194000
      clear HO_194001
      clear HO_203000
      clear HO_203001
      clear BK168
      clear BK185
      clear BK193
      clear BK202
      clear HB
      have HO_186000 := n0_
      have HO_186001 := n1_
      have HO_194000 := n2_
      have HO_194001 := n3_
      have HO_203000 := n4_
      have HO_203001 := n5_
      have HO206 := n6_
      have HO209 := n7_
      have BK168 := n8_
      have BK185 := n9_
      have BK193 := n10_
      have BK202 := n11_
      have HB := n12_
      clear n0_ n1_ n2_ n3_ n4_ n5_ n6_ n7_ n8_ n9_ n10_ n11_ n12_
      (try clear hb)
      (try clear hb2)
      (try clear hk)
      (try clear hi)
      (try clear ho0)
      (try clear ho1)
      obtain ⟨Ao70, co70, eo70⟩ := Kd.R_slice HO206.out
      (first | subst eo70 | (injection eo70 with f1_ f2_ f3_; have f4_ := f1_.symm; have f5_ := f3_.symm; clear f1_ f2_ f3_; subst f4_; subst f5_))
      obtain ⟨Ao71, co71, eo71⟩ := Kd.R_slice HO209.out
      (first | subst eo71 | (injection eo71 with f1_ f2_ f3_; have f4_ := f1_.symm; have f5_ := f3_.symm; clear f1_ f2_ f3_; subst f4_; subst f5_))
      refine hK.out _ _ ⟨(blk_cell BK193.out 0).trans rfl, (blk_cell BK193.out 1).trans rfl, (blk_cell BK193.out 2).trans rfl, (blk_cell BK168.out 0).trans rfl, (blk_cell BK168.out 1).trans rfl, (blk_cell BK168.out 2).trans rfl⟩ (fun hHeld => ?_)
      clear hK K
      refine norm_ (a' := ?_) ?_ ?_
      rotate_left
      ·show Act.put _ (some 55) _ = _
       simp only [Act.put, List.setIfInBounds_toArray, List.set_cons_zero, List.set_cons_succ, i64_w, i32_w]
       rfl
      refine one_ (i := 3) (N := some 56) #[true, true, true, true, false] rfl rfl qdp4_28 (by decide) (fun K hK => ?_)
      refine goes_ Try.func13 qdp4_28 rfl #[.agg #[.slice Ao31 t186.length co31, .slice Ao35 t189.length co35, .int .i64 t192], .agg #[.slice Ao70 t204.length co70, .slice Ao71 t207.length co71, .int .i64 t210]] (by rfl) rfl rfl qdp4_10 ?_
      with_reducible refine (laws_eqDict.calls kj13 _ _ t186 _ _ t189 t192 _ _ t204 _ _ t207 t210 true _ ?side1 ?side2 ?side3 ?side4 ?side5 ?side6 ?side7 ?side8 A64.out).mono ?_
      (case side1 => exact (qdp4_8 HO_194000))
      (case side2 => exact (Kd.R_reads' HO_194000.out).2.1)
      (case side3 => exact (qdp4_8 HO_194001))
      (case side4 => exact (Kd.R_reads' HO_194001.out).2.1)
      (case side5 => exact (qdp4_8 HO206))
      (case side6 => exact (Kd.R_reads' HO206.out).2.1)
      (case side7 => exact (qdp4_8 HO209))
      (case side8 => exact (Kd.R_reads' HO209.out).2.1)
      rintro e w72 ⟨rfl, hb⟩
      refine ⟨_, rfl, ?_⟩
      have n0_ := Aside0.mk (Kd.R_below (qdp4_2 HO_186000) hb)
      have n1_ := Aside0.mk (Kd.R_below (qdp4_2 HO_186001) hb)
      have n2_ := Aside0.mk (Kd.R_below (qdp4_2 HO_194000) hb)
      have n3_ := Aside0.mk (Kd.R_below (qdp4_2 HO_194001) hb)
      have n4_ := Aside0.mk (Kd.R_below (qdp4_2 HO_203000) hb)
      have n5_ := Aside0.mk (Kd.R_below (qdp4_2 HO_203001) hb)
      have n6_ := Aside0.mk (Kd.R_below (qdp4_2 HO206) hb)
      have n7_ := Aside0.mk (Kd.R_below (qdp4_2 HO209) hb)
      have n8_ := Aside0.mk (blk_below (g := gb168) (o := .cells #[.slice A0_0 l0_0.length c0_0, .slice A0_1 l0_1.length c0_1, .int .i64 a0_2] 40 (0, 0)) (qdp4_5 BK168) hb)
      have n9_ := Aside0.mk (blk_below (g := gb185) (o := .cells #[.slice Ao24 t177.length co24, .slice Ao27 t180.length co27, .int .i64 t183] 25 (0, 0)) (qdp4_5 BK185) hb)
      have n10_ := Aside0.mk (blk_below (g := gb193) (o := .cells #[.slice Ao31 t186.length co31, .slice Ao35 t189.length co35, .int .i64 t192] 25 (0, 0)) (qdp4_5 BK193) hb)
      have n11_ := Aside0.mk (blk_below (g := gb202) (o := .cells #[.slice Ao38 t194.length co38, .slice Ao43 t197.length co43, .int .i64 t200] 25 (0, 0)) (qdp4_5 BK202) hb)
      have n12_ := Aside0.mk (below_step (qdp4_7 HB GE168 GE185 GE193 GE202) hb)
      clear HO_186000
      clear HO_186001
      clear HO_194000
      clear HO_194001
      clear HO_203000
      clear HO_203001
      clear HO206
      clear HO209
      clear BK168
      clear BK185
      clear BK193
      clear BK202
      clear HB
      have HO_186000 := n0_
      have HO_186001 := n1_
      have HO_194000 := n2_
      have HO_194001 := n3_
      have HO_203000 := n4_
      have HO_203001 := n5_
      have HO206 := n6_
      have HO209 := n7_
      have BK168 := n8_
      have BK185 := n9_
      have BK193 := n10_
      have BK202 := n11_
      have HB := n12_
      clear n0_ n1_ n2_ n3_ n4_ n5_ n6_ n7_ n8_ n9_ n10_ n11_ n12_
      (try clear hb)
      (try clear hb2)
      (try clear hk)
      (try clear hi)
      refine hK.out _ _ ⟨(blk_cell BK193.out 0).trans rfl, (blk_cell BK193.out 1).trans rfl, (blk_cell BK193.out 2).trans rfl, (blk_cell BK168.out 0).trans rfl, (blk_cell BK168.out 1).trans rfl, (blk_cell BK168.out 2).trans rfl⟩ (fun hHeld => ?_)
      clear hK K
      refine norm_ (a' := ?_) ?_ ?_
      rotate_left
      ·show Act.put _ (some 56) _ = _
       simp only [Act.put, List.setIfInBounds_toArray, List.set_cons_zero, List.set_cons_succ, i64_w, i32_w]
       rfl
      refine pure_ (i := 4) (N := some 57) (v := ?_) (a' := ?_) #[true, true, true, true, true] rfl rfl qdp4_28 (fun _ _ _ h => h) (Or.inl ⟨by rfl, ?_⟩) ?_ ?_
      rotate_left
      ·intro w'
       go_simp
       with_reducible rfl
      rotate_left
      ·simp only [Act.put, List.setIfInBounds_toArray, List.set_cons_zero, List.set_cons_succ, i64_w, i32_w]
       rfl
      refine done_ qdp4_28 ?_
      have hnb73 := NB193_168.out
      have hnc73 := NB168_193.out
      have hnb74 := NB193_185.out
      have hnc74 := NB185_193.out
      have hnb75 := NB193_202.out
      have hnc75 := NB202_193.out
      have hcz76_0 : w72.cell? ⟨gb193, 0, none⟩ = some (.slice Ao31 t186.length co31) := (blk_cell BK193.out 0).trans rfl
      have hcz76_1 : w72.cell? ⟨gb193, 1, none⟩ = some (.slice Ao35 t189.length co35) := (blk_cell BK193.out 1).trans rfl
      have hcz76_2 : w72.cell? ⟨gb193, 2, none⟩ = some (.int .i64 t192) := (blk_cell BK193.out 2).trans rfl
      have hfz76_0 := blk_frozen BK193.out 0
      have hfz76_1 := blk_frozen BK193.out 1
      have hfz76_2 := blk_frozen BK193.out 2
      go_upto_region 14 with (first | ((with_reducible refine gate_callee (f := 14) rfl ?_); refine goesL_ (some 60) rfl rfl Try.func14 qdp4_28 rfl #[.agg #[.slice Ao31 t186.length co31, .slice Ao35 t189.length co35, .int .i64 t192], .int .i64 1] rfl qdp4_10 ?_; (with_reducible refine (laws_markDict.calls kj13 (fun k_ => some k_ = (.slice Ao31 t186.length co31 : Value).ownBlock) (.slice Ao31 t186.length co31) t186 (fun k_ => some k_ = (.slice Ao35 t189.length co35 : Value).ownBlock) (.slice Ao35 t189.length co35) t189 t192 1 t212 t213 t214 w _ ?side1 ?side2 ?side3 A66.out).mono ?_); (case side1 => exact (qdp4_7 HB GE168 GE185 GE193 GE202)); (case side2 => exact Kd.R_tight rfl HO_194000.out); (case side3 => exact Kd.R_tight rfl HO_194001.out); rintro e w77 ⟨rfl, hy0, hy1, hb, hkp⟩; refine ⟨_, rfl, ?_⟩; have n0_ := Aside0.mk (Kd.R_mono (ok' := fun k_ => some k_ ≠ (.slice Ao31 t186.length co31 : Value).ownBlock ∧ some k_ ≠ (.slice Ao38 t194.length co38 : Value).ownBlock ∧ some k_ ≠ (.slice Ao70 t204.length co70 : Value).ownBlock) (Kd.R_keptB ((Kd.R_apart' HO_186000.out (Kd.R_typed HO_194001.out) (by decide))) hkp (fun k_ hk_ hs_ => Or.elim hs_ (fun e_ => (hk_.1.1.1) e_) (fun e_ => (hk_.2) e_))) (fun k_ hk_ => ⟨hk_.1.1.1.1, hk_.1.1.1.2, hk_.1.1.2⟩)); have n1_ := Aside0.mk (Kd.R_mono (ok' := fun k_ => some k_ ≠ (.slice Ao35 t189.length co35 : Value).ownBlock ∧ some k_ ≠ (.slice Ao43 t197.length co43 : Value).ownBlock ∧ some k_ ≠ (.slice Ao71 t207.length co71 : Value).ownBlock) (Kd.R_keptB ((Kd.R_apart' HO_186001.out (Kd.R_typed HO_194000.out) (by decide))) hkp (fun k_ hk_ hs_ => Or.elim hs_ (fun e_ => (hk_.2) e_) (fun e_ => (hk_.1.1.1) e_))) (fun k_ hk_ => ⟨hk_.1.1.1.1, hk_.1.1.1.2, hk_.1.1.2⟩)); have n2_ := Aside0.mk (Kd.R_reok rfl hy0 (fun k_ e_ => HO_194000.out.1 k_ e_)); have n3_ := Aside0.mk (Kd.R_reok rfl hy1 (fun k_ e_ => HO_194001.out.1 k_ e_)); have n4_ := Aside0.mk (Kd.R_mono (ok' := fun k_ => some k_ ≠ (.slice Ao24 t177.length co24 : Value).ownBlock ∧ some k_ ≠ (.slice Ao31 t186.length co31 : Value).ownBlock ∧ some k_ ≠ (.slice Ao70 t204.length co70 : Value).ownBlock) (Kd.R_keptB ((Kd.R_apart' HO_203000.out (Kd.R_typed HO_194001.out) (by decide))) hkp (fun k_ hk_ hs_ => Or.elim hs_ (fun e_ => (hk_.1.1.2) e_) (fun e_ => (hk_.2) e_))) (fun k_ hk_ => ⟨hk_.1.1.1.1, hk_.1.1.1.2, hk_.1.1.2⟩)); have n5_ := Aside0.mk (Kd.R_mono (ok' := fun k_ => some k_ ≠ (.slice Ao27 t180.length co27 : Value).ownBlock ∧ some k_ ≠ (.slice Ao35 t189.length co35 : Value).ownBlock ∧ some k_ ≠ (.slice Ao71 t207.length co71 : Value).ownBlock) (Kd.R_keptB ((Kd.R_apart' HO_203001.out (Kd.R_typed HO_194000.out) (by decide))) hkp (fun k_ hk_ hs_ => Or.elim hs_ (fun e_ => (hk_.2) e_) (fun e_ => (hk_.1.1.2) e_))) (fun k_ hk_ => ⟨hk_.1.1.1.1, hk_.1.1.1.2, hk_.1.1.2⟩)); have n6_ := Aside0.mk (blk_kept (qdp4_5 BK168) hkp (fun hs_ => Or.elim hs_ (fun e_ => (fun e_ => (Kd.R_ne HO_194000.out BK168.out (by decide)) e_) e_) (fun e_ => (fun e_ => (Kd.R_ne HO_194001.out BK168.out (by decide)) e_) e_))); have n7_ := Aside0.mk (blk_kept (qdp4_5 BK185) hkp (fun hs_ => Or.elim hs_ (fun e_ => (fun e_ => (Kd.R_ne HO_194000.out BK185.out (by decide)) e_) e_) (fun e_ => (fun e_ => (Kd.R_ne HO_194001.out BK185.out (by decide)) e_) e_))); have n8_ := Aside0.mk (blk_kept (qdp4_5 BK193) hkp (fun hs_ => Or.elim hs_ (fun e_ => (fun e_ => (Kd.R_ne HO_194000.out BK193.out (by decide)) e_) e_) (fun e_ => (fun e_ => (Kd.R_ne HO_194001.out BK193.out (by decide)) e_) e_))); have n9_ := Aside0.mk (blk_kept (qdp4_5 BK202) hkp (fun hs_ => Or.elim hs_ (fun e_ => (fun e_ => (Kd.R_ne HO_194000.out BK202.out (by decide)) e_) e_) (fun e_ => (fun e_ => (Kd.R_ne HO_194001.out BK202.out (by decide)) e_) e_))); have n10_ := Aside0.mk (Kd.R_mono (ok' := fun k_ => some k_ ≠ (.slice Ao24 t177.length co24 : Value).ownBlock ∧ some k_ ≠ (.slice Ao31 t186.length co31 : Value).ownBlock ∧ some k_ ≠ (.slice Ao38 t194.length co38 : Value).ownBlock) (Kd.R_keptB ((Kd.R_apart' HO206.out (Kd.R_typed HO_194001.out) (by decide))) hkp (fun k_ hk_ hs_ => Or.elim hs_ (fun e_ => (hk_.1.1.2) e_) (fun e_ => (hk_.2) e_))) (fun k_ hk_ => ⟨hk_.1.1.1.1.2, hk_.1.1.1.2, hk_.1.1.2⟩)); have n11_ := Aside0.mk (Kd.R_mono (ok' := fun k_ => some k_ ≠ (.slice Ao27 t180.length co27 : Value).ownBlock ∧ some k_ ≠ (.slice Ao35 t189.length co35 : Value).ownBlock ∧ some k_ ≠ (.slice Ao43 t197.length co43 : Value).ownBlock) (Kd.R_keptB ((Kd.R_apart' HO209.out (Kd.R_typed HO_194000.out) (by decide))) hkp (fun k_ hk_ hs_ => Or.elim hs_ (fun e_ => (hk_.2) e_) (fun e_ => (hk_.1.1.2) e_))) (fun k_ hk_ => ⟨hk_.1.1.1.1.2, hk_.1.1.1.2, hk_.1.1.2⟩)); have n12_ := Aside0.mk (hb); clear HO_186000; clear HO_186001; clear HO_194000; clear HO_194001; clear HO_203000; clear HO_203001; clear BK168; clear BK185; clear BK193; clear BK202; clear HO206; clear HO209; clear HB; have HO_186000 := n0_; have HO_186001 := n1_; have HO_194000 := n2_; have HO_194001 := n3_; have HO_203000 := n4_; have HO_203001 := n5_; have BK168 := n6_; have BK185 := n7_; have BK193 := n8_; have BK202 := n9_; have HO206 := n10_; have HO209 := n11_; have HB := n12_; clear n0_ n1_ n2_ n3_ n4_ n5_ n6_ n7_ n8_ n9_ n10_ n11_ n12_; (try clear hb); (try clear hkp); (try clear hy0); (try clear hy1)))
      (try simp only [Act.put, List.setIfInBounds_toArray, List.set_cons_zero, List.set_cons_succ])
      go_cut [73] (fun v73 wc => ∃ (kq : Nat) (x73_66 : Bool), v73 = .bool x73_66 ∧ Aside0 (laws_FnExactDictPut.j1 kq a1 a2 a3 t184 x73_66 l0_0 l0_1 a0_2 t177 t180 t183 t194 t197 t200 = some r) ∧ Aside0 (kq ≤ kj13) ∧ Aside0 (Kd.R (Kd.int .i64) 2 wc w.heap.size (fun k_ => some k_ ≠ ((.slice Ao31 t186.length co31) : Value).ownBlock ∧ some k_ ≠ ((.slice Ao38 t194.length co38) : Value).ownBlock) (.slice Ao24 t177.length co24) t177) ∧ Aside0 (Kd.R k62 62 wc w.heap.size (fun k_ => some k_ ≠ ((.slice Ao35 t189.length co35) : Value).ownBlock ∧ some k_ ≠ ((.slice Ao43 t197.length co43) : Value).ownBlock) (.slice Ao27 t180.length co27) t180) ∧ Aside0 (Kd.R (Kd.int .i64) 2 wc w.heap.size (fun k_ => some k_ ≠ ((.slice Ao24 t177.length co24) : Value).ownBlock ∧ some k_ ≠ ((.slice Ao38 t194.length co38) : Value).ownBlock) (.slice Ao31 t186.length co31) t213) ∧ Aside0 (Kd.R k62 62 wc w.heap.size (fun k_ => some k_ ≠ ((.slice Ao27 t180.length co27) : Value).ownBlock ∧ some k_ ≠ ((.slice Ao43 t197.length co43) : Value).ownBlock) (.slice Ao35 t189.length co35) t214) ∧ Aside0 (Kd.R (Kd.int .i64) 2 wc w.heap.size (fun k_ => some k_ ≠ ((.slice Ao24 t177.length co24) : Value).ownBlock ∧ some k_ ≠ ((.slice Ao31 t186.length co31) : Value).ownBlock) (.slice Ao38 t194.length co38) t194) ∧ Aside0 (Kd.R k62 62 wc w.heap.size (fun k_ => some k_ ≠ ((.slice Ao27 t180.length co27) : Value).ownBlock ∧ some k_ ≠ ((.slice Ao35 t189.length co35) : Value).ownBlock) (.slice Ao43 t197.length co43) t197) ∧ Aside0 (wc.heap[gb168]? = some (.cells #[(.slice A0_0 l0_0.length c0_0), (.slice A0_1 l0_1.length c0_1), .int .i64 a0_2] 40 (0, 0))) ∧ Aside0 (wc.heap[gb185]? = some (.cells #[(.slice Ao24 t177.length co24), (.slice Ao27 t180.length co27), .int .i64 t183] 25 (0, 0))) ∧ Aside0 (wc.heap[gb193]? = some (.cells #[(.slice Ao31 t186.length co31), (.slice Ao35 t189.length co35), .int .i64 t192] 25 (0, 0))) ∧ Aside0 (wc.heap[gb202]? = some (.cells #[(.slice Ao38 t194.length co38), (.slice Ao43 t197.length co43), .int .i64 t200] 25 (0, 0))) ∧ Aside0 (Below w.heap.size w wc))
      case first =>
       have H := HC67.out
       clear HC67
       by_cases c78 : t212 < 0
       ·rw [if_pos c78] at H
        have c78b0 : decide (t212 < 0) = true := decide_eq_true c78
        clear c78
        (first | rw [c78b0] | (simp only [i64_w, i32_w]; rw [c78b0]) | skip)
        have H' := Aside0.mk H
        clear H
        go_wp2
        go_meet
        case rel => exact ⟨_, (true), qdp4_27, H', ⟨by have := HJ13.out; first | omega | exact Nat.le_refl _⟩, ⟨by (with_reducible repeat (first | apply Kd.R_alloc | apply Kd.R_drewN | apply Kd.R_drew)); exact Kd.R_mono HO_186000.out (fun _ hk => ⟨hk.1, hk.2.1⟩)⟩, ⟨by (with_reducible repeat (first | apply Kd.R_alloc | apply Kd.R_drewN | apply Kd.R_drew)); exact Kd.R_mono HO_186001.out (fun _ hk => ⟨hk.1, hk.2.1⟩)⟩, ⟨by (with_reducible repeat (first | apply Kd.R_alloc | apply Kd.R_drewN | apply Kd.R_drew)); exact Kd.R_mono HO_194000.out (fun _ hk => ⟨hk.1.1, hk.1.2⟩)⟩, ⟨by (with_reducible repeat (first | apply Kd.R_alloc | apply Kd.R_drewN | apply Kd.R_drew)); exact Kd.R_mono HO_194001.out (fun _ hk => ⟨hk.1.1, hk.1.2⟩)⟩, ⟨by (with_reducible repeat (first | apply Kd.R_alloc | apply Kd.R_drewN | apply Kd.R_drew)); exact Kd.R_mono HO_203000.out (fun _ hk => ⟨hk.1, hk.2.1⟩)⟩, ⟨by (with_reducible repeat (first | apply Kd.R_alloc | apply Kd.R_drewN | apply Kd.R_drew)); exact Kd.R_mono HO_203001.out (fun _ hk => ⟨hk.1, hk.2.1⟩)⟩, ⟨by (with_reducible repeat (first | refine blk_drewN ?_ _ | refine blk_drew ?_ | refine blk_alloc ?_ _)); exact BK168.out⟩, ⟨by (with_reducible repeat (first | refine blk_drewN ?_ _ | refine blk_drew ?_ | refine blk_alloc ?_ _)); exact BK185.out⟩, ⟨by (with_reducible repeat (first | refine blk_drewN ?_ _ | refine blk_drew ?_ | refine blk_alloc ?_ _)); exact BK193.out⟩, ⟨by (with_reducible repeat (first | refine blk_drewN ?_ _ | refine blk_drew ?_ | refine blk_alloc ?_ _)); exact BK202.out⟩, ⟨by repeat (first | (with_reducible first | exact HB.out | apply below_alloc | apply pw_below_drewN | apply below_drew1 | refine below_set ?_ GE168.out | refine below_set ?_ GE185.out | refine below_set ?_ GE193.out | refine below_set ?_ GE202.out) | exact HB.out)⟩⟩
       ·rw [if_neg c78] at H
        have c78b0 : decide (t212 < 0) = false := decide_eq_false c78
        clear c78
        (first | rw [c78b0] | (simp only [i64_w, i32_w]; rw [c78b0]) | skip)
        replace H := Option.bind_eq_some_iff.mp H
        obtain ⟨t215, A790, H⟩ := H
        replace H : (if t215 = true then (laws_FnExactDictPut.j1 kj13 a1 a2 a3 t184 (t201 != t184) l0_0 l0_1 a0_2 t177 t180 t183 t194 t197 t200) else (laws_FnExactDictPut.j1 kj13 a1 a2 a3 t184 true l0_0 l0_1 a0_2 t177 t180 t183 t194 t197 t200)) = some r := H
        have A79 := Aside0.mk A790
        clear A790
        by_cases c80 : t215 = true
        ·subst c80
         have H1 : (laws_FnExactDictPut.j1 kj13 a1 a2 a3 t184 (t201 != t184) l0_0 l0_1 a0_2 t177 t180 t183 t194 t197 t200) = some r := by rw [if_pos rfl] at H; exact H
         clear H
         have H := H1
         clear H1
         have H' := Aside0.mk H
         clear H
         have hnb81 := NB202_168.out
         have hnc81 := NB168_202.out
         have hnb82 := NB202_185.out
         have hnc82 := NB185_202.out
         have hnb83 := NB202_193.out
         have hnc83 := NB193_202.out
         have hcz84_0 : w77.cell? ⟨gb202, 0, none⟩ = some (.slice Ao38 t194.length co38) := (blk_cell BK202.out 0).trans rfl
         have hcz84_1 : w77.cell? ⟨gb202, 1, none⟩ = some (.slice Ao43 t197.length co43) := (blk_cell BK202.out 1).trans rfl
         have hcz84_2 : w77.cell? ⟨gb202, 2, none⟩ = some (.int .i64 t200) := (blk_cell BK202.out 2).trans rfl
         have hfz84_0 := blk_frozen BK202.out 0
         have hfz84_1 := blk_frozen BK202.out 1
         have hfz84_2 := blk_frozen BK202.out 2
         have hnb85 := NB185_168.out
         have hnc85 := NB168_185.out
         have hnb86 := NB185_193.out
         have hnc86 := NB193_185.out
         have hcz87_0 : w77.cell? ⟨gb185, 0, none⟩ = some (.slice Ao24 t177.length co24) := (blk_cell BK185.out 0).trans rfl
         have hcz87_1 : w77.cell? ⟨gb185, 1, none⟩ = some (.slice Ao27 t180.length co27) := (blk_cell BK185.out 1).trans rfl
         have hcz87_2 : w77.cell? ⟨gb185, 2, none⟩ = some (.int .i64 t183) := (blk_cell BK185.out 2).trans rfl
         have hfz87_0 := blk_frozen BK185.out 0
         have hfz87_1 := blk_frozen BK185.out 1
         have hfz87_2 := blk_frozen BK185.out 2
         go_wp2_with (first | (go_at_call 13; (with_reducible refine (laws_eqDict.calls kj13 _ _ t194 _ _ t197 t200 _ _ t177 _ _ t180 t183 true _ ?side1 ?side2 ?side3 ?side4 ?side5 ?side6 ?side7 ?side8 A79.out).mono ?_); (case side1 => exact (qdp4_8 HO_203000)); (case side2 => exact (Kd.R_reads' HO_203000.out).2.1); (case side3 => exact (qdp4_8 HO_203001)); (case side4 => exact (Kd.R_reads' HO_203001.out).2.1); (case side5 => exact (qdp4_8 HO_186000)); (case side6 => exact (Kd.R_reads' HO_186000.out).2.1); (case side7 => exact (qdp4_8 HO_186001)); (case side8 => exact (Kd.R_reads' HO_186001.out).2.1); rintro e w88 ⟨rfl, hb⟩; have n0_ := Aside0.mk (Kd.R_below (qdp4_2 HO_186000) hb); have n1_ := Aside0.mk (Kd.R_below (qdp4_2 HO_186001) hb); have n2_ := Aside0.mk (Kd.R_below (qdp4_2 HO_194000) hb); have n3_ := Aside0.mk (Kd.R_below (qdp4_2 HO_194001) hb); have n4_ := Aside0.mk (Kd.R_below (qdp4_2 HO_203000) hb); have n5_ := Aside0.mk (Kd.R_below (qdp4_2 HO_203001) hb); have n6_ := Aside0.mk (Kd.R_below (qdp4_2 HO206) hb); have n7_ := Aside0.mk (Kd.R_below (qdp4_2 HO209) hb); have n8_ := Aside0.mk (blk_below (g := gb168) (o := .cells #[.slice A0_0 l0_0.length c0_0, .slice A0_1 l0_1.length c0_1, .int .i64 a0_2] 40 (0, 0)) (qdp4_5 BK168) hb); have n9_ := Aside0.mk (blk_below (g := gb185) (o := .cells #[.slice Ao24 t177.length co24, .slice Ao27 t180.length co27, .int .i64 t183] 25 (0, 0)) (qdp4_5 BK185) hb); have n10_ := Aside0.mk (blk_below (g := gb193) (o := .cells #[.slice Ao31 t186.length co31, .slice Ao35 t189.length co35, .int .i64 t192] 25 (0, 0)) (qdp4_5 BK193) hb); have n11_ := Aside0.mk (blk_below (g := gb202) (o := .cells #[.slice Ao38 t194.length co38, .slice Ao43 t197.length co43, .int .i64 t200] 25 (0, 0)) (qdp4_5 BK202) hb); have n12_ := Aside0.mk (below_step (qdp4_7 HB GE168 GE185 GE193 GE202) hb); clear HO_186000; clear HO_186001; clear HO_194000; clear HO_194001; clear HO_203000; clear HO_203001; clear HO206; clear HO209; clear BK168; clear BK185; clear BK193; clear BK202; clear HB; have HO_186000 := n0_; have HO_186001 := n1_; have HO_194000 := n2_; have HO_194001 := n3_; have HO_203000 := n4_; have HO_203001 := n5_; have HO206 := n6_; have HO209 := n7_; have BK168 := n8_; have BK185 := n9_; have BK193 := n10_; have BK202 := n11_; have HB := n12_; clear n0_ n1_ n2_ n3_ n4_ n5_ n6_ n7_ n8_ n9_ n10_ n11_ n12_; (try clear hb); (try clear hb2); (try clear hk); (try clear hi)))
         go_meet
         case rel => exact ⟨_, ((t201 != t184)), qdp4_27, H', ⟨by have := HJ13.out; first | omega | exact Nat.le_refl _⟩, ⟨by (with_reducible repeat (first | apply Kd.R_alloc | apply Kd.R_drewN | apply Kd.R_drew)); exact Kd.R_mono HO_186000.out (fun _ hk => ⟨hk.1, hk.2.1⟩)⟩, ⟨by (with_reducible repeat (first | apply Kd.R_alloc | apply Kd.R_drewN | apply Kd.R_drew)); exact Kd.R_mono HO_186001.out (fun _ hk => ⟨hk.1, hk.2.1⟩)⟩, ⟨by (with_reducible repeat (first | apply Kd.R_alloc | apply Kd.R_drewN | apply Kd.R_drew)); exact Kd.R_mono HO_194000.out (fun _ hk => ⟨hk.1.1, hk.1.2⟩)⟩, ⟨by (with_reducible repeat (first | apply Kd.R_alloc | apply Kd.R_drewN | apply Kd.R_drew)); exact Kd.R_mono HO_194001.out (fun _ hk => ⟨hk.1.1, hk.1.2⟩)⟩, ⟨by (with_reducible repeat (first | apply Kd.R_alloc | apply Kd.R_drewN | apply Kd.R_drew)); exact Kd.R_mono HO_203000.out (fun _ hk => ⟨hk.1, hk.2.1⟩)⟩, ⟨by (with_reducible repeat (first | apply Kd.R_alloc | apply Kd.R_drewN | apply Kd.R_drew)); exact Kd.R_mono HO_203001.out (fun _ hk => ⟨hk.1, hk.2.1⟩)⟩, ⟨by (with_reducible repeat (first | refine blk_drewN ?_ _ | refine blk_drew ?_ | refine blk_alloc ?_ _)); exact BK168.out⟩, ⟨by (with_reducible repeat (first | refine blk_drewN ?_ _ | refine blk_drew ?_ | refine blk_alloc ?_ _)); exact BK185.out⟩, ⟨by (with_reducible repeat (first | refine blk_drewN ?_ _ | refine blk_drew ?_ | refine blk_alloc ?_ _)); exact BK193.out⟩, ⟨by (with_reducible repeat (first | refine blk_drewN ?_ _ | refine blk_drew ?_ | refine blk_alloc ?_ _)); exact BK202.out⟩, ⟨by repeat (first | (with_reducible first | exact HB.out | apply below_alloc | apply pw_below_drewN | apply below_drew1 | refine below_set ?_ GE168.out | refine below_set ?_ GE185.out | refine below_set ?_ GE193.out | refine below_set ?_ GE202.out) | exact HB.out)⟩⟩
        ·replace c80 := Bool.eq_false_iff.mpr c80
         subst c80
         have H1 : (laws_FnExactDictPut.j1 kj13 a1 a2 a3 t184 true l0_0 l0_1 a0_2 t177 t180 t183 t194 t197 t200) = some r := by rw [if_neg (show ¬ (false = true) by decide)] at H; exact H
         clear H
         have H := H1
         clear H1
         have H' := Aside0.mk H
         clear H
         have hnb89 := NB202_168.out
         have hnc89 := NB168_202.out
         have hnb90 := NB202_185.out
         have hnc90 := NB185_202.out
         have hnb91 := NB202_193.out
         have hnc91 := NB193_202.out
         have hcz92_0 : w77.cell? ⟨gb202, 0, none⟩ = some (.slice Ao38 t194.length co38) := (blk_cell BK202.out 0).trans rfl
         have hcz92_1 : w77.cell? ⟨gb202, 1, none⟩ = some (.slice Ao43 t197.length co43) := (blk_cell BK202.out 1).trans rfl
         have hcz92_2 : w77.cell? ⟨gb202, 2, none⟩ = some (.int .i64 t200) := (blk_cell BK202.out 2).trans rfl
         have hfz92_0 := blk_frozen BK202.out 0
         have hfz92_1 := blk_frozen BK202.out 1
         have hfz92_2 := blk_frozen BK202.out 2
         have hnb93 := NB185_168.out
         have hnc93 := NB168_185.out
         have hnb94 := NB185_193.out
         have hnc94 := NB193_185.out
         have hcz95_0 : w77.cell? ⟨gb185, 0, none⟩ = some (.slice Ao24 t177.length co24) := (blk_cell BK185.out 0).trans rfl
         have hcz95_1 : w77.cell? ⟨gb185, 1, none⟩ = some (.slice Ao27 t180.length co27) := (blk_cell BK185.out 1).trans rfl
         have hcz95_2 : w77.cell? ⟨gb185, 2, none⟩ = some (.int .i64 t183) := (blk_cell BK185.out 2).trans rfl
         have hfz95_0 := blk_frozen BK185.out 0
         have hfz95_1 := blk_frozen BK185.out 1
         have hfz95_2 := blk_frozen BK185.out 2
         go_wp2_with (first | (go_at_call 13; (with_reducible refine (laws_eqDict.calls kj13 _ _ t194 _ _ t197 t200 _ _ t177 _ _ t180 t183 false _ ?side1 ?side2 ?side3 ?side4 ?side5 ?side6 ?side7 ?side8 A79.out).mono ?_); (case side1 => exact (qdp4_8 HO_203000)); (case side2 => exact (Kd.R_reads' HO_203000.out).2.1); (case side3 => exact (qdp4_8 HO_203001)); (case side4 => exact (Kd.R_reads' HO_203001.out).2.1); (case side5 => exact (qdp4_8 HO_186000)); (case side6 => exact (Kd.R_reads' HO_186000.out).2.1); (case side7 => exact (qdp4_8 HO_186001)); (case side8 => exact (Kd.R_reads' HO_186001.out).2.1); rintro e w96 ⟨rfl, hb⟩; have n0_ := Aside0.mk (Kd.R_below (qdp4_2 HO_186000) hb); have n1_ := Aside0.mk (Kd.R_below (qdp4_2 HO_186001) hb); have n2_ := Aside0.mk (Kd.R_below (qdp4_2 HO_194000) hb); have n3_ := Aside0.mk (Kd.R_below (qdp4_2 HO_194001) hb); have n4_ := Aside0.mk (Kd.R_below (qdp4_2 HO_203000) hb); have n5_ := Aside0.mk (Kd.R_below (qdp4_2 HO_203001) hb); have n6_ := Aside0.mk (Kd.R_below (qdp4_2 HO206) hb); have n7_ := Aside0.mk (Kd.R_below (qdp4_2 HO209) hb); have n8_ := Aside0.mk (blk_below (g := gb168) (o := .cells #[.slice A0_0 l0_0.length c0_0, .slice A0_1 l0_1.length c0_1, .int .i64 a0_2] 40 (0, 0)) (qdp4_5 BK168) hb); have n9_ := Aside0.mk (blk_below (g := gb185) (o := .cells #[.slice Ao24 t177.length co24, .slice Ao27 t180.length co27, .int .i64 t183] 25 (0, 0)) (qdp4_5 BK185) hb); have n10_ := Aside0.mk (blk_below (g := gb193) (o := .cells #[.slice Ao31 t186.length co31, .slice Ao35 t189.length co35, .int .i64 t192] 25 (0, 0)) (qdp4_5 BK193) hb); have n11_ := Aside0.mk (blk_below (g := gb202) (o := .cells #[.slice Ao38 t194.length co38, .slice Ao43 t197.length co43, .int .i64 t200] 25 (0, 0)) (qdp4_5 BK202) hb); have n12_ := Aside0.mk (below_step (qdp4_7 HB GE168 GE185 GE193 GE202) hb); clear HO_186000; clear HO_186001; clear HO_194000; clear HO_194001; clear HO_203000; clear HO_203001; clear HO206; clear HO209; clear BK168; clear BK185; clear BK193; clear BK202; clear HB; have HO_186000 := n0_; have HO_186001 := n1_; have HO_194000 := n2_; have HO_194001 := n3_; have HO_203000 := n4_; have HO_203001 := n5_; have HO206 := n6_; have HO209 := n7_; have BK168 := n8_; have BK185 := n9_; have BK193 := n10_; have BK202 := n11_; have HB := n12_; clear n0_ n1_ n2_ n3_ n4_ n5_ n6_ n7_ n8_ n9_ n10_ n11_ n12_; (try clear hb); (try clear hb2); (try clear hk); (try clear hi)))
         go_meet
         case rel => exact ⟨_, (true), qdp4_27, H', ⟨by have := HJ13.out; first | omega | exact Nat.le_refl _⟩, ⟨by (with_reducible repeat (first | apply Kd.R_alloc | apply Kd.R_drewN | apply Kd.R_drew)); exact Kd.R_mono HO_186000.out (fun _ hk => ⟨hk.1, hk.2.1⟩)⟩, ⟨by (with_reducible repeat (first | apply Kd.R_alloc | apply Kd.R_drewN | apply Kd.R_drew)); exact Kd.R_mono HO_186001.out (fun _ hk => ⟨hk.1, hk.2.1⟩)⟩, ⟨by (with_reducible repeat (first | apply Kd.R_alloc | apply Kd.R_drewN | apply Kd.R_drew)); exact Kd.R_mono HO_194000.out (fun _ hk => ⟨hk.1.1, hk.1.2⟩)⟩, ⟨by (with_reducible repeat (first | apply Kd.R_alloc | apply Kd.R_drewN | apply Kd.R_drew)); exact Kd.R_mono HO_194001.out (fun _ hk => ⟨hk.1.1, hk.1.2⟩)⟩, ⟨by (with_reducible repeat (first | apply Kd.R_alloc | apply Kd.R_drewN | apply Kd.R_drew)); exact Kd.R_mono HO_203000.out (fun _ hk => ⟨hk.1, hk.2.1⟩)⟩, ⟨by (with_reducible repeat (first | apply Kd.R_alloc | apply Kd.R_drewN | apply Kd.R_drew)); exact Kd.R_mono HO_203001.out (fun _ hk => ⟨hk.1, hk.2.1⟩)⟩, ⟨by (with_reducible repeat (first | refine blk_drewN ?_ _ | refine blk_drew ?_ | refine blk_alloc ?_ _)); exact BK168.out⟩, ⟨by (with_reducible repeat (first | refine blk_drewN ?_ _ | refine blk_drew ?_ | refine blk_alloc ?_ _)); exact BK185.out⟩, ⟨by (with_reducible repeat (first | refine blk_drewN ?_ _ | refine blk_drew ?_ | refine blk_alloc ?_ _)); exact BK193.out⟩, ⟨by (with_reducible repeat (first | refine blk_drewN ?_ _ | refine blk_drew ?_ | refine blk_alloc ?_ _)); exact BK202.out⟩, ⟨by repeat (first | (with_reducible first | exact HB.out | apply below_alloc | apply pw_below_drewN | apply below_drew1 | refine below_set ?_ GE168.out | refine below_set ?_ GE185.out | refine below_set ?_ GE193.out | refine below_set ?_ GE202.out) | exact HB.out)⟩⟩
      case rest =>
       clear HC67
       try clear c1
       try clear c2
       try clear p2
       try clear c3
       try clear c4
       try clear c5
       try clear c6
       try clear c6b0
       try clear c7
       try clear c8
       try clear c9
       try clear c10
       try clear c13
       try clear c14
       try clear c19
       try clear c21
       try clear c25
       try clear c32
       try clear c33
       try clear c36
       try clear c38
       try clear c39
       try clear c40
       try clear c41
       try clear c45
       try clear c46
       try clear c47
       try clear c48
       try clear c50
       try clear c51
       try clear c54
       try clear c55
       try clear c56
       try clear c58
       try clear c59
       try clear c62
       try clear c65
       try clear c73
       try clear c74
       try clear c75
       try clear c78
       try clear c78b0
       try clear c80
       try clear c81
       try clear c82
       try clear c83
       try clear c85
       try clear c86
       try clear c89
       try clear c90
       try clear c91
       try clear c93
       try clear c94
       try clear hcz16_0
       try clear hcz16_1
       try clear hcz16_2
       try clear hcz18_0
       try clear hcz18_1
       try clear hcz18_2
       try clear hcz26_0
       try clear hcz26_1
       try clear hcz26_2
       try clear hcz28_0
       try clear hcz28_1
       try clear hcz28_2
       try clear hcz34_0
       try clear hcz34_1
       try clear hcz34_2
       try clear hcz42_0
       try clear hcz42_1
       try clear hcz42_2
       try clear hcz49_0
       try clear hcz49_1
       try clear hcz49_2
       try clear hcz52_0
       try clear hcz52_1
       try clear hcz52_2
       try clear hcz57_0
       try clear hcz57_1
       try clear hcz57_2
       try clear hcz60_0
       try clear hcz60_1
       try clear hcz60_2
       try clear hcz76_0
       try clear hcz76_1
       try clear hcz76_2
       try clear hcz84_0
       try clear hcz84_1
       try clear hcz84_2
       try clear hcz87_0
       try clear hcz87_1
       try clear hcz87_2
       try clear hcz8_0
       try clear hcz8_1
       try clear hcz8_2
       try clear hcz92_0
       try clear hcz92_1
       try clear hcz92_2
       try clear hcz95_0
       try clear hcz95_1
       try clear hcz95_2
       try clear hfz16_0
       try clear hfz16_1
       try clear hfz16_2
       try clear hfz18_0
       try clear hfz18_1
       try clear hfz18_2
       try clear hfz26_0
       try clear hfz26_1
       try clear hfz26_2
       try clear hfz28_0
       try clear hfz28_1
       try clear hfz28_2
       try clear hfz34_0
       try clear hfz34_1
       try clear hfz34_2
       try clear hfz42_0
       try clear hfz42_1
       try clear hfz42_2
       try clear hfz49_0
       try clear hfz49_1
       try clear hfz49_2
       try clear hfz52_0
       try clear hfz52_1
       try clear hfz52_2
       try clear hfz57_0
       try clear hfz57_1
       try clear hfz57_2
       try clear hfz60_0
       try clear hfz60_1
       try clear hfz60_2
       try clear hfz76_0
       try clear hfz76_1
       try clear hfz76_2
       try clear hfz84_0
       try clear hfz84_1
       try clear hfz84_2
       try clear hfz87_0
       try clear hfz87_1
       try clear hfz87_2
       try clear hfz8_0
       try clear hfz8_1
       try clear hfz8_2
       try clear hfz92_0
       try clear hfz92_1
       try clear hfz92_2
       try clear hfz95_0
       try clear hfz95_1
       try clear hfz95_2
       try clear p2
       obtain ⟨kq, x73_66, rfl, HA, HJ66, HO_186000, HO_186001, HO_194000, HO_194001, HO_203000, HO_203001, BK168, BK185, BK193, BK202, HB⟩ := hcut
       have hl194000_66 := (Kd.R_reads' HO_194000.out).1
       rw [hl194000_66] at HO_194000
       (try simp only [hl194000_66])
       (try simp only [hl194000_66] at BK168)
       (try simp only [hl194000_66] at BK185)
       (try simp only [hl194000_66] at BK193)
       (try simp only [hl194000_66] at BK202)
       (try simp only [hl194000_66] at HO_186000)
       (try simp only [hl194000_66] at HO_186001)
       (try simp only [hl194000_66] at HO_194001)
       (try simp only [hl194000_66] at HO_203000)
       (try simp only [hl194000_66] at HO_203001)
       have hl194001_66 := (Kd.R_reads' HO_194001.out).1
       rw [hl194001_66] at HO_194001
       (try simp only [hl194001_66])
       (try simp only [hl194001_66] at BK168)
       (try simp only [hl194001_66] at BK185)
       (try simp only [hl194001_66] at BK193)
       (try simp only [hl194001_66] at BK202)
       (try simp only [hl194001_66] at HO_186000)
       (try simp only [hl194001_66] at HO_186001)
       (try simp only [hl194001_66] at HO_194000)
       (try simp only [hl194001_66] at HO_203000)
       (try simp only [hl194001_66] at HO_203001)
       cases kq with
       | zero => exact absurd HA.out (by simp [laws_FnExactDictPut.j1])
       | succ kj66 =>
        have H := HA.out
        clear HA
        simp only [laws_FnExactDictPut.j1] at H
        by_cases c97 : x73_66 = true
        ·subst c97
         have H1 : (none) = some r := by rw [if_pos rfl] at H; exact H
         clear H
         have H := H1
         clear H1
         exact absurd H (by simp)
        ·replace c97 := Bool.eq_false_iff.mpr c97
         subst c97
         have H1 : ((laws_markDict.f kj66 t194 t197 t200 1).bind fun bt216 => ((laws_heldDict.f kj66 bt216.2.1 bt216.2.2 t200 1).bind fun t219 => (if t219 < 0 then (none) else (if t219 = bt216.1 then ((laws_toDict.f kj66 l0_0 l0_1 a0_2).bind fun bt220 => ((impl_DictPut.f bt220.1 bt220.2.1 bt220.2.2 a1 a2 a3).bind fun bt227 => ((laws_eqDict.f kj66 bt227.1 bt227.2.1 bt227.2.2.1 t177 t180 t183).bind fun t236 => (if t236 = true then (laws_FnExactDictPut.j2 kj66 bt216.1 (bt227.2.2.2 != t184) bt216.2.1 bt216.2.2 t200) else (laws_FnExactDictPut.j2 kj66 bt216.1 true bt216.2.1 bt216.2.2 t200))))) else (none))))) = some r := by rw [if_neg (show ¬ (false = true) by decide)] at H; exact H
         clear H
         have H := H1
         clear H1
         replace H := Option.bind_eq_some_iff.mp H
         obtain ⟨⟨t216, t217, t218⟩, A980, H⟩ := H
         replace H : ((laws_heldDict.f kj66 t217 t218 t200 1).bind fun t219 => (if t219 < 0 then (none) else (if t219 = t216 then ((laws_toDict.f kj66 l0_0 l0_1 a0_2).bind fun bt220 => ((impl_DictPut.f bt220.1 bt220.2.1 bt220.2.2 a1 a2 a3).bind fun bt227 => ((laws_eqDict.f kj66 bt227.1 bt227.2.1 bt227.2.2.1 t177 t180 t183).bind fun t236 => (if t236 = true then (laws_FnExactDictPut.j2 kj66 t216 (bt227.2.2.2 != t184) t217 t218 t200) else (laws_FnExactDictPut.j2 kj66 t216 true t217 t218 t200))))) else (none)))) = some r := H
         have A98 := Aside0.mk A980
         clear A980
         replace H := Option.bind_eq_some_iff.mp H
         obtain ⟨t219, A990, H⟩ := H
         replace H : (if t219 < 0 then (none) else (if t219 = t216 then ((laws_toDict.f kj66 l0_0 l0_1 a0_2).bind fun bt220 => ((impl_DictPut.f bt220.1 bt220.2.1 bt220.2.2 a1 a2 a3).bind fun bt227 => ((laws_eqDict.f kj66 bt227.1 bt227.2.1 bt227.2.2.1 t177 t180 t183).bind fun t236 => (if t236 = true then (laws_FnExactDictPut.j2 kj66 t216 (bt227.2.2.2 != t184) t217 t218 t200) else (laws_FnExactDictPut.j2 kj66 t216 true t217 t218 t200))))) else (none))) = some r := H
         have A99 := Aside0.mk A990
         clear A990
         by_cases c100 : t219 < 0
         ·rw [if_pos c100] at H
          exact absurd H (by simp)
         ·rw [if_neg c100] at H
          have c100b0 : decide (t219 < 0) = false := decide_eq_false c100
          clear c100
          by_cases c101 : t219 = t216
          ·rw [if_pos c101] at H
           have c101b0 : (t219 == t216) = true := beq_iff_eq.mpr c101
           have c101b1 : (t219 != t216) = false := bne_eq_false_iff_eq.mpr c101
           clear c101
           replace H := Option.bind_eq_some_iff.mp H
           obtain ⟨⟨t220, t223, t226⟩, A1020, H⟩ := H
           replace H : ((impl_DictPut.f t220 t223 t226 a1 a2 a3).bind fun bt227 => ((laws_eqDict.f kj66 bt227.1 bt227.2.1 bt227.2.2.1 t177 t180 t183).bind fun t236 => (if t236 = true then (laws_FnExactDictPut.j2 kj66 t216 (bt227.2.2.2 != t184) t217 t218 t200) else (laws_FnExactDictPut.j2 kj66 t216 true t217 t218 t200)))) = some r := H
           have A102 := Aside0.mk A1020
           clear A1020
           replace H := Option.bind_eq_some_iff.mp H
           obtain ⟨⟨t227, t230, t233, t234⟩, A1030, H⟩ := H
           replace H : ((laws_eqDict.f kj66 t227 t230 t233 t177 t180 t183).bind fun t236 => (if t236 = true then (laws_FnExactDictPut.j2 kj66 t216 (t234 != t184) t217 t218 t200) else (laws_FnExactDictPut.j2 kj66 t216 true t217 t218 t200))) = some r := H
           have A103 := Aside0.mk A1030
           clear A1030
           have HC104 := Aside0.mk H
           clear H
           have hnb105 := NB202_168.out
           have hnc105 := NB168_202.out
           have hnb106 := NB202_185.out
           have hnc106 := NB185_202.out
           have hnb107 := NB202_193.out
           have hnc107 := NB193_202.out
           have hcz108_0 : wc.cell? ⟨gb202, 0, none⟩ = some (.slice Ao38 t194.length co38) := (blk_cell BK202.out 0).trans rfl
           have hcz108_1 : wc.cell? ⟨gb202, 1, none⟩ = some (.slice Ao43 t197.length co43) := (blk_cell BK202.out 1).trans rfl
           have hcz108_2 : wc.cell? ⟨gb202, 2, none⟩ = some (.int .i64 t200) := (blk_cell BK202.out 2).trans rfl
           have hfz108_0 := blk_frozen BK202.out 0
           have hfz108_1 := blk_frozen BK202.out 1
           have hfz108_2 := blk_frozen BK202.out 2
           go_upto_region 25 with (first | ((with_reducible refine gate_callee (f := 14) rfl ?_); refine goesL_ (some 76) rfl rfl Try.func14 qdp4_28 rfl #[.agg #[.slice Ao38 t194.length co38, .slice Ao43 t197.length co43, .int .i64 t200], .int .i64 1] rfl qdp4_10 ?_; (with_reducible refine (laws_markDict.calls kj66 (fun k_ => some k_ = (.slice Ao38 t194.length co38 : Value).ownBlock) (.slice Ao38 t194.length co38) t194 (fun k_ => some k_ = (.slice Ao43 t197.length co43 : Value).ownBlock) (.slice Ao43 t197.length co43) t197 t200 1 t216 t217 t218 w _ ?side1 ?side2 ?side3 A98.out).mono ?_); (case side1 => exact (qdp4_7 HB GE168 GE185 GE193 GE202)); (case side2 => exact Kd.R_tight rfl HO_203000.out); (case side3 => exact Kd.R_tight rfl HO_203001.out); rintro e w109 ⟨rfl, hy0, hy1, hb, hkp⟩; refine ⟨_, rfl, ?_⟩; have n0_ := Aside0.mk (Kd.R_mono (ok' := fun k_ => some k_ ≠ (.slice Ao31 t213.length co31 : Value).ownBlock ∧ some k_ ≠ (.slice Ao38 t194.length co38 : Value).ownBlock) (Kd.R_keptB ((Kd.R_apart' HO_186000.out (Kd.R_typed HO_203001.out) (by decide))) hkp (fun k_ hk_ hs_ => Or.elim hs_ (fun e_ => (hk_.1.2) e_) (fun e_ => (hk_.2) e_))) (fun k_ hk_ => ⟨hk_.1.1.1, hk_.1.1.2⟩)); have n1_ := Aside0.mk (Kd.R_mono (ok' := fun k_ => some k_ ≠ (.slice Ao35 t214.length co35 : Value).ownBlock ∧ some k_ ≠ (.slice Ao43 t197.length co43 : Value).ownBlock) (Kd.R_keptB ((Kd.R_apart' HO_186001.out (Kd.R_typed HO_203000.out) (by decide))) hkp (fun k_ hk_ hs_ => Or.elim hs_ (fun e_ => (hk_.2) e_) (fun e_ => (hk_.1.2) e_))) (fun k_ hk_ => ⟨hk_.1.1.1, hk_.1.1.2⟩)); have n2_ := Aside0.mk (Kd.R_mono (ok' := fun k_ => some k_ ≠ (.slice Ao24 t177.length co24 : Value).ownBlock ∧ some k_ ≠ (.slice Ao38 t194.length co38 : Value).ownBlock) (Kd.R_keptB ((Kd.R_apart' HO_194000.out (Kd.R_typed HO_203001.out) (by decide))) hkp (fun k_ hk_ hs_ => Or.elim hs_ (fun e_ => (hk_.1.2) e_) (fun e_ => (hk_.2) e_))) (fun k_ hk_ => ⟨hk_.1.1.1, hk_.1.1.2⟩)); have n3_ := Aside0.mk (Kd.R_mono (ok' := fun k_ => some k_ ≠ (.slice Ao27 t180.length co27 : Value).ownBlock ∧ some k_ ≠ (.slice Ao43 t197.length co43 : Value).ownBlock) (Kd.R_keptB ((Kd.R_apart' HO_194001.out (Kd.R_typed HO_203000.out) (by decide))) hkp (fun k_ hk_ hs_ => Or.elim hs_ (fun e_ => (hk_.2) e_) (fun e_ => (hk_.1.2) e_))) (fun k_ hk_ => ⟨hk_.1.1.1, hk_.1.1.2⟩)); have n4_ := Aside0.mk (Kd.R_reok rfl hy0 (fun k_ e_ => HO_203000.out.1 k_ e_)); have n5_ := Aside0.mk (Kd.R_reok rfl hy1 (fun k_ e_ => HO_203001.out.1 k_ e_)); have n6_ := Aside0.mk (blk_kept (qdp4_5 BK168) hkp (fun hs_ => Or.elim hs_ (fun e_ => (fun e_ => (Kd.R_ne HO_203000.out BK168.out (by decide)) e_) e_) (fun e_ => (fun e_ => (Kd.R_ne HO_203001.out BK168.out (by decide)) e_) e_))); have n7_ := Aside0.mk (blk_kept (qdp4_5 BK185) hkp (fun hs_ => Or.elim hs_ (fun e_ => (fun e_ => (Kd.R_ne HO_203000.out BK185.out (by decide)) e_) e_) (fun e_ => (fun e_ => (Kd.R_ne HO_203001.out BK185.out (by decide)) e_) e_))); have n8_ := Aside0.mk (blk_kept (qdp4_5 BK193) hkp (fun hs_ => Or.elim hs_ (fun e_ => (fun e_ => (Kd.R_ne HO_203000.out BK193.out (by decide)) e_) e_) (fun e_ => (fun e_ => (Kd.R_ne HO_203001.out BK193.out (by decide)) e_) e_))); have n9_ := Aside0.mk (blk_kept (qdp4_5 BK202) hkp (fun hs_ => Or.elim hs_ (fun e_ => (fun e_ => (Kd.R_ne HO_203000.out BK202.out (by decide)) e_) e_) (fun e_ => (fun e_ => (Kd.R_ne HO_203001.out BK202.out (by decide)) e_) e_))); have n10_ := Aside0.mk (hb); clear HO_186000; clear HO_186001; clear HO_194000; clear HO_194001; clear HO_203000; clear HO_203001; clear BK168; clear BK185; clear BK193; clear BK202; clear HB; have HO_186000 := n0_; have HO_186001 := n1_; have HO_194000 := n2_; have HO_194001 := n3_; have HO_203000 := n4_; have HO_203001 := n5_; have BK168 := n6_; have BK185 := n7_; have BK193 := n8_; have BK202 := n9_; have HB := n10_; clear n0_ n1_ n2_ n3_ n4_ n5_ n6_ n7_ n8_ n9_ n10_; (try clear hb); (try clear hkp); (try clear hy0); (try clear hy1); have hcz110_0 : w109.cell? ⟨gb202, 0, none⟩ = some (.slice Ao38 t194.length co38) := (blk_cell BK202.out 0).trans rfl; have hcz110_1 : w109.cell? ⟨gb202, 1, none⟩ = some (.slice Ao43 t197.length co43) := (blk_cell BK202.out 1).trans rfl; have hcz110_2 : w109.cell? ⟨gb202, 2, none⟩ = some (.int .i64 t200) := (blk_cell BK202.out 2).trans rfl; have hfz110_0 := blk_frozen BK202.out 0; have hfz110_1 := blk_frozen BK202.out 1; have hfz110_2 := blk_frozen BK202.out 2) | ((with_reducible refine gate_callee (f := 15) rfl ?_); refine goesL_ (some 79) rfl rfl Try.func15 qdp4_28 rfl #[.agg #[.slice Ao38 t217.length co38, .slice Ao43 t218.length co43, .int .i64 t200], .int .i64 1] rfl (by (try simp only [List.map_toArray, List.map_cons, List.map_nil]); first | done | (rw [show t217.length = t194.length from (Kd.R_reads' HO_203000.out).1.symm, show t218.length = t197.length from (Kd.R_reads' HO_203001.out).1.symm] <;> rfl) | rfl | (simp only [List.length_drop, List.length_take]; rfl)) ?_; (with_reducible refine (laws_heldDict.calls kj66 _ _ t217 _ _ t218 t200 1 t219 _ ?side1 ?side2 ?side3 ?side4 A99.out).mono ?_); (case side1 => exact (qdp4_8 HO_203000)); (case side2 => exact (by rw [show t217.length = t194.length from (Kd.R_reads' HO_203000.out).1.symm]; exact (Kd.R_reads' HO_203000.out).2.1)); (case side3 => exact (qdp4_8 HO_203001)); (case side4 => exact (by rw [show t218.length = t197.length from (Kd.R_reads' HO_203001.out).1.symm]; exact (Kd.R_reads' HO_203001.out).2.1)); rintro e w111 ⟨rfl, hb⟩; refine ⟨_, rfl, ?_⟩; have n0_ := Aside0.mk (Kd.R_below (qdp4_2 HO_186000) hb); have n1_ := Aside0.mk (Kd.R_below (qdp4_2 HO_186001) hb); have n2_ := Aside0.mk (Kd.R_below (qdp4_2 HO_194000) hb); have n3_ := Aside0.mk (Kd.R_below (qdp4_2 HO_194001) hb); have n4_ := Aside0.mk (Kd.R_below (qdp4_2 HO_203000) hb); have n5_ := Aside0.mk (Kd.R_below (qdp4_2 HO_203001) hb); have n6_ := Aside0.mk (blk_below (g := gb168) (o := .cells #[.slice A0_0 l0_0.length c0_0, .slice A0_1 l0_1.length c0_1, .int .i64 a0_2] 40 (0, 0)) (qdp4_5 BK168) hb); have n7_ := Aside0.mk (blk_below (g := gb185) (o := .cells #[.slice Ao24 t177.length co24, .slice Ao27 t180.length co27, .int .i64 t183] 25 (0, 0)) (qdp4_5 BK185) hb); have n8_ := Aside0.mk (blk_below (g := gb193) (o := .cells #[.slice Ao31 t213.length co31, .slice Ao35 t214.length co35, .int .i64 t192] 25 (0, 0)) (qdp4_5 BK193) hb); have n9_ := Aside0.mk (blk_below (g := gb202) (o := .cells #[.slice Ao38 t194.length co38, .slice Ao43 t197.length co43, .int .i64 t200] 25 (0, 0)) (qdp4_5 BK202) hb); have n10_ := Aside0.mk (below_step (qdp4_7 HB GE168 GE185 GE193 GE202) hb); clear HO_186000; clear HO_186001; clear HO_194000; clear HO_194001; clear HO_203000; clear HO_203001; clear BK168; clear BK185; clear BK193; clear BK202; clear HB; have HO_186000 := n0_; have HO_186001 := n1_; have HO_194000 := n2_; have HO_194001 := n3_; have HO_203000 := n4_; have HO_203001 := n5_; have BK168 := n6_; have BK185 := n7_; have BK193 := n8_; have BK202 := n9_; have HB := n10_; clear n0_ n1_ n2_ n3_ n4_ n5_ n6_ n7_ n8_ n9_ n10_; (try clear hb); (try clear hb2); (try clear hk); (try clear hi); have hnb112 := NB168_185.out; have hnc112 := NB185_168.out; have hnb113 := NB168_193.out; have hnc113 := NB193_168.out; have hcz114_0 : w111.cell? ⟨gb168, 0, none⟩ = some (.slice A0_0 l0_0.length c0_0) := (blk_cell BK168.out 0).trans rfl; have hcz114_1 : w111.cell? ⟨gb168, 1, none⟩ = some (.slice A0_1 l0_1.length c0_1) := (blk_cell BK168.out 1).trans rfl; have hcz114_2 : w111.cell? ⟨gb168, 2, none⟩ = some (.int .i64 a0_2) := (blk_cell BK168.out 2).trans rfl; have hfz114_0 := blk_frozen BK168.out 0; have hfz114_1 := blk_frozen BK168.out 1; have hfz114_2 := blk_frozen BK168.out 2) | ((with_reducible refine gate_callee (f := 21) rfl ?_); refine goesL_ (some 87) rfl rfl Try.func21 qdp4_28 rfl #[.agg #[.slice A0_0 l0_0.length c0_0, .slice A0_1 l0_1.length c0_1, .int .i64 a0_2]] rfl qdp4_10 ?_; (with_reducible refine (laws_toDict.calls kj66 _ _ l0_0 _ _ l0_1 a0_2 t220 t223 t226 _ ?side1 ?side2 ?side3 ?side4 A102.out).mono ?_); (case side1 => exact (qdp4_12 HR0_0 HB)); (case side2 => exact HC0_0.out); (case side3 => exact (qdp4_12 HR0_1 HB)); (case side4 => exact HC0_1.out); rintro e w115 ⟨v221, v224, rfl, ho0, ho1, hb⟩; refine ⟨_, rfl, ?_⟩; have n0_ := Aside0.mk (Kd.R_elder' (qdp4_2 HO_186000) (Kd.R_base ho0) hb); have n1_ := Aside0.mk (Kd.R_elder' (qdp4_2 HO_186001) (Kd.R_base ho1) hb); have n2_ := Aside0.mk (Kd.R_elder' (qdp4_2 HO_194000) (Kd.R_base ho0) hb); have n3_ := Aside0.mk (Kd.R_elder' (qdp4_2 HO_194001) (Kd.R_base ho1) hb); have n4_ := Aside0.mk (Kd.R_elder' (qdp4_2 HO_203000) (Kd.R_base ho0) hb); have n5_ := Aside0.mk (Kd.R_elder' (qdp4_2 HO_203001) (Kd.R_base ho1) hb); have n6_ := Aside0.mk (Kd.R_lower (Kd.R_new' (Kd.R_new' (Kd.R_new' ho0 (Kd.R_lt (qdp4_2 HO_186000))) (Kd.R_lt (qdp4_2 HO_194000))) (Kd.R_lt (qdp4_2 HO_203000))) (below_size (qdp4_7 HB GE168 GE185 GE193 GE202))); have n7_ := Aside0.mk (Kd.R_lower (Kd.R_new' (Kd.R_new' (Kd.R_new' ho1 (Kd.R_lt (qdp4_2 HO_186001))) (Kd.R_lt (qdp4_2 HO_194001))) (Kd.R_lt (qdp4_2 HO_203001))) (below_size (qdp4_7 HB GE168 GE185 GE193 GE202))); have n8_ := Aside0.mk (blk_below (g := gb168) (o := .cells #[.slice A0_0 l0_0.length c0_0, .slice A0_1 l0_1.length c0_1, .int .i64 a0_2] 40 (0, 0)) (qdp4_5 BK168) hb); have n9_ := Aside0.mk (blk_below (g := gb185) (o := .cells #[.slice Ao24 t177.length co24, .slice Ao27 t180.length co27, .int .i64 t183] 25 (0, 0)) (qdp4_5 BK185) hb); have n10_ := Aside0.mk (blk_below (g := gb193) (o := .cells #[.slice Ao31 t213.length co31, .slice Ao35 t214.length co35, .int .i64 t192] 25 (0, 0)) (qdp4_5 BK193) hb); have n11_ := Aside0.mk (blk_below (g := gb202) (o := .cells #[.slice Ao38 t194.length co38, .slice Ao43 t197.length co43, .int .i64 t200] 25 (0, 0)) (qdp4_5 BK202) hb); have n12_ := Aside0.mk (below_step (qdp4_7 HB GE168 GE185 GE193 GE202) hb); clear HO_186000; clear HO_186001; clear HO_194000; clear HO_194001; clear HO_203000; clear HO_203001; clear BK168; clear BK185; clear BK193; clear BK202; clear HB; have HO_186000 := n0_; have HO_186001 := n1_; have HO_194000 := n2_; have HO_194001 := n3_; have HO_203000 := n4_; have HO_203001 := n5_; have HO222 := n6_; have HO225 := n7_; have BK168 := n8_; have BK185 := n9_; have BK193 := n10_; have BK202 := n11_; have HB := n12_; clear n0_ n1_ n2_ n3_ n4_ n5_ n6_ n7_ n8_ n9_ n10_ n11_ n12_; (try clear hb); (try clear hb2); (try clear hk); (try clear hi); (try clear ho0); (try clear ho1); obtain ⟨Ao116, co116, eo116⟩ := Kd.R_slice HO222.out; subst eo116; obtain ⟨Ao117, co117, eo117⟩ := Kd.R_slice HO225.out; subst eo117) | ((with_reducible refine gate_callee (f := 36) rfl ?_); refine goesL_ (some 91) rfl rfl Try.func36 qdp4_28 rfl #[.agg #[.slice Ao116 t220.length co116, .slice Ao117 t223.length co117, .int .i64 t226], .int .u64 a1, .int .i64 a2, .int .i64 a3] rfl qdp4_10 ?_; (with_reducible refine (impl_DictPut.calls _ _ t220 _ _ t223 t226 a1 a2 a3 t227 t230 t233 t234 _ ?side1 ?side2 ?side3 ?side4 A103.out).mono ?_); (case side1 => exact (qdp4_8 HO222)); (case side2 => exact (Kd.R_reads' HO222.out).2.1); (case side3 => exact (qdp4_8 HO225)); (case side4 => exact (Kd.R_reads' HO225.out).2.1); rintro e w118 ⟨v228, v231, rfl, ho0, ho1, hb⟩; refine ⟨_, rfl, ?_⟩; have n0_ := Aside0.mk (Kd.R_elder' (qdp4_2 HO_186000) (Kd.R_base ho0) hb); have n1_ := Aside0.mk (Kd.R_elder' (qdp4_2 HO_186001) (Kd.R_base ho1) hb); have n2_ := Aside0.mk (Kd.R_elder' (qdp4_2 HO_194000) (Kd.R_base ho0) hb); have n3_ := Aside0.mk (Kd.R_elder' (qdp4_2 HO_194001) (Kd.R_base ho1) hb); have n4_ := Aside0.mk (Kd.R_elder' (qdp4_2 HO_203000) (Kd.R_base ho0) hb); have n5_ := Aside0.mk (Kd.R_elder' (qdp4_2 HO_203001) (Kd.R_base ho1) hb); have n6_ := Aside0.mk (Kd.R_elder' (qdp4_2 HO222) (Kd.R_base ho0) hb); have n7_ := Aside0.mk (Kd.R_elder' (qdp4_2 HO225) (Kd.R_base ho1) hb); have n8_ := Aside0.mk (Kd.R_lower (Kd.R_new' (Kd.R_new' (Kd.R_new' (Kd.R_new' ho0 (Kd.R_lt (qdp4_2 HO_186000))) (Kd.R_lt (qdp4_2 HO_194000))) (Kd.R_lt (qdp4_2 HO_203000))) (Kd.R_lt (qdp4_2 HO222))) (below_size (qdp4_7 HB GE168 GE185 GE193 GE202))); have n9_ := Aside0.mk (Kd.R_lower (Kd.R_new' (Kd.R_new' (Kd.R_new' (Kd.R_new' ho1 (Kd.R_lt (qdp4_2 HO_186001))) (Kd.R_lt (qdp4_2 HO_194001))) (Kd.R_lt (qdp4_2 HO_203001))) (Kd.R_lt (qdp4_2 HO225))) (below_size (qdp4_7 HB GE168 GE185 GE193 GE202))); have n10_ := Aside0.mk (blk_below (g := gb168) (o := .cells #[.slice A0_0 l0_0.length c0_0, .slice A0_1 l0_1.length c0_1, .int .i64 a0_2] 40 (0, 0)) (qdp4_5 BK168) hb); have n11_ := Aside0.mk (blk_below (g := gb185) (o := .cells #[.slice Ao24 t177.length co24, .slice Ao27 t180.length co27, .int .i64 t183] 25 (0, 0)) (qdp4_5 BK185) hb); have n12_ := Aside0.mk (blk_below (g := gb193) (o := .cells #[.slice Ao31 t213.length co31, .slice Ao35 t214.length co35, .int .i64 t192] 25 (0, 0)) (qdp4_5 BK193) hb); have n13_ := Aside0.mk (blk_below (g := gb202) (o := .cells #[.slice Ao38 t194.length co38, .slice Ao43 t197.length co43, .int .i64 t200] 25 (0, 0)) (qdp4_5 BK202) hb); have n14_ := Aside0.mk (below_step (qdp4_7 HB GE168 GE185 GE193 GE202) hb); clear HO_186000; clear HO_186001; clear HO_194000; clear HO_194001; clear HO_203000; clear HO_203001; clear HO222; clear HO225; clear BK168; clear BK185; clear BK193; clear BK202; clear HB; have HO_186000 := n0_; have HO_186001 := n1_; have HO_194000 := n2_; have HO_194001 := n3_; have HO_203000 := n4_; have HO_203001 := n5_; have HO222 := n6_; have HO225 := n7_; have HO229 := n8_; have HO232 := n9_; have BK168 := n10_; have BK185 := n11_; have BK193 := n12_; have BK202 := n13_; have HB := n14_; clear n0_ n1_ n2_ n3_ n4_ n5_ n6_ n7_ n8_ n9_ n10_ n11_ n12_ n13_ n14_; (try clear hb); (try clear hb2); (try clear hk); (try clear hi); (try clear ho0); (try clear ho1)) | ((with_reducible refine gate_dst (N := 18) rfl ?_); refine box_event ?hg (N := 18) ?hd (cs := #[.slice none 0 0, .slice none 0 0, .int .i64 0]) (t := 25) ?hr ?_; (case hd => rfl); (case hg => rfl); (case hr => exact (by first | (go_simp; done) | (go_simp; rfl))); intro gb235 hg w119 hbox hb; have n0_ := Aside0.mk (Kd.R_below (qdp4_2 HO_186000) hb); have n1_ := Aside0.mk (Kd.R_below (qdp4_2 HO_186001) hb); have n2_ := Aside0.mk (Kd.R_below (qdp4_2 HO_194000) hb); have n3_ := Aside0.mk (Kd.R_below (qdp4_2 HO_194001) hb); have n4_ := Aside0.mk (Kd.R_below (qdp4_2 HO_203000) hb); have n5_ := Aside0.mk (Kd.R_below (qdp4_2 HO_203001) hb); have n6_ := Aside0.mk (Kd.R_below (qdp4_2 HO222) hb); have n7_ := Aside0.mk (Kd.R_below (qdp4_2 HO225) hb); have n8_ := Aside0.mk (Kd.R_below (qdp4_2 HO229) hb); have n9_ := Aside0.mk (Kd.R_below (qdp4_2 HO232) hb); have n10_ := Aside0.mk (blk_below (g := gb168) (o := .cells #[.slice A0_0 l0_0.length c0_0, .slice A0_1 l0_1.length c0_1, .int .i64 a0_2] 40 (0, 0)) (qdp4_5 BK168) hb); have n11_ := Aside0.mk (blk_below (g := gb185) (o := .cells #[.slice Ao24 t177.length co24, .slice Ao27 t180.length co27, .int .i64 t183] 25 (0, 0)) (qdp4_5 BK185) hb); have n12_ := Aside0.mk (blk_below (g := gb193) (o := .cells #[.slice Ao31 t213.length co31, .slice Ao35 t214.length co35, .int .i64 t192] 25 (0, 0)) (qdp4_5 BK193) hb); have n13_ := Aside0.mk (blk_below (g := gb202) (o := .cells #[.slice Ao38 t194.length co38, .slice Ao43 t197.length co43, .int .i64 t200] 25 (0, 0)) (qdp4_5 BK202) hb); have n14_ := Aside0.mk (below_step (qdp4_7 HB GE168 GE185 GE193 GE202) hb); have n15_ := Aside0.mk (hbox); have n16_ := Aside0.mk ((by rw [hg]; exact (below_size (qdp4_7 HB GE168 GE185 GE193 GE202)) : w.heap.size ≤ gb235)); have n17_ := Aside0.mk ((by rw [hg]; exact (below_size (qdp4_7 HB GE168 GE185 GE193 GE202)) : w.heap.size ≤ gb235)); have n18_ := Aside0.mk ((by rw [hg]; exact Nat.ne_of_lt (blk_lt (g := gb168) (o := .cells #[.slice A0_0 l0_0.length c0_0, .slice A0_1 l0_1.length c0_1, .int .i64 a0_2] 40 (0, 0)) (qdp4_5 BK168)) : gb168 ≠ gb235)); have n19_ := Aside0.mk ((by rw [hg]; exact Nat.ne_of_gt (blk_lt (g := gb168) (o := .cells #[.slice A0_0 l0_0.length c0_0, .slice A0_1 l0_1.length c0_1, .int .i64 a0_2] 40 (0, 0)) (qdp4_5 BK168)) : gb235 ≠ gb168)); have n20_ := Aside0.mk ((by rw [hg]; exact Nat.ne_of_lt (blk_lt (g := gb185) (o := .cells #[.slice Ao24 t177.length co24, .slice Ao27 t180.length co27, .int .i64 t183] 25 (0, 0)) (qdp4_5 BK185)) : gb185 ≠ gb235)); have n21_ := Aside0.mk ((by rw [hg]; exact Nat.ne_of_gt (blk_lt (g := gb185) (o := .cells #[.slice Ao24 t177.length co24, .slice Ao27 t180.length co27, .int .i64 t183] 25 (0, 0)) (qdp4_5 BK185)) : gb235 ≠ gb185)); have n22_ := Aside0.mk ((by rw [hg]; exact Nat.ne_of_lt (blk_lt (g := gb193) (o := .cells #[.slice Ao31 t213.length co31, .slice Ao35 t214.length co35, .int .i64 t192] 25 (0, 0)) (qdp4_5 BK193)) : gb193 ≠ gb235)); have n23_ := Aside0.mk ((by rw [hg]; exact Nat.ne_of_gt (blk_lt (g := gb193) (o := .cells #[.slice Ao31 t213.length co31, .slice Ao35 t214.length co35, .int .i64 t192] 25 (0, 0)) (qdp4_5 BK193)) : gb235 ≠ gb193)); have n24_ := Aside0.mk ((by rw [hg]; exact Nat.ne_of_lt (blk_lt (g := gb202) (o := .cells #[.slice Ao38 t194.length co38, .slice Ao43 t197.length co43, .int .i64 t200] 25 (0, 0)) (qdp4_5 BK202)) : gb202 ≠ gb235)); have n25_ := Aside0.mk ((by rw [hg]; exact Nat.ne_of_gt (blk_lt (g := gb202) (o := .cells #[.slice Ao38 t194.length co38, .slice Ao43 t197.length co43, .int .i64 t200] 25 (0, 0)) (qdp4_5 BK202)) : gb235 ≠ gb202)); clear HO_186000; clear HO_186001; clear HO_194000; clear HO_194001; clear HO_203000; clear HO_203001; clear HO222; clear HO225; clear HO229; clear HO232; clear BK168; clear BK185; clear BK193; clear BK202; clear HB; have HO_186000 := n0_; have HO_186001 := n1_; have HO_194000 := n2_; have HO_194001 := n3_; have HO_203000 := n4_; have HO_203001 := n5_; have HO222 := n6_; have HO225 := n7_; have HO229 := n8_; have HO232 := n9_; have BK168 := n10_; have BK185 := n11_; have BK193 := n12_; have BK202 := n13_; have HB := n14_; have BK235 := n15_; have GW235 := n16_; have GE235 := n17_; have NB168_235 := n18_; have NB235_168 := n19_; have NB185_235 := n20_; have NB235_185 := n21_; have NB193_235 := n22_; have NB235_193 := n23_; have NB202_235 := n24_; have NB235_202 := n25_; clear n0_ n1_ n2_ n3_ n4_ n5_ n6_ n7_ n8_ n9_ n10_ n11_ n12_ n13_ n14_ n15_ n16_ n17_ n18_ n19_ n20_ n21_ n22_ n23_ n24_ n25_; clear hb hbox hg; obtain ⟨Ao120, co120, eo120⟩ := Kd.R_slice HO229.out; subst eo120; have hnb121 := NB235_168.out; have hnc121 := NB168_235.out; have hnb122 := NB235_185.out; have hnc122 := NB185_235.out; have hnb123 := NB235_193.out; have hnc123 := NB193_235.out; have hnb124 := NB235_202.out; have hnc124 := NB202_235.out; have hcz125_0 : w119.cell? ⟨gb235, 0, none⟩ = some (.slice none 0 0) := (blk_cell BK235.out 0).trans rfl; have hcz125_1 : w119.cell? ⟨gb235, 1, none⟩ = some (.slice none 0 0) := (blk_cell BK235.out 1).trans rfl; have hcz125_2 : w119.cell? ⟨gb235, 2, none⟩ = some (.int .i64 0) := (blk_cell BK235.out 2).trans rfl; have hfz125_0 := blk_frozen BK235.out 0; have hfz125_1 := blk_frozen BK235.out 1; have hfz125_2 := blk_frozen BK235.out 2; obtain ⟨Ao126, co126, eo126⟩ := Kd.R_slice HO232.out; subst eo126))
           (try simp only [Act.put, List.setIfInBounds_toArray, List.set_cons_zero, List.set_cons_succ])
           go_cut [102] (fun v102 wc => ∃ (kq : Nat) (x102_103 : Bool), v102 = .bool x102_103 ∧ Aside0 (laws_FnExactDictPut.j2 kq t216 x102_103 t217 t218 t200 = some r) ∧ Aside0 (kq ≤ kj66) ∧ Aside0 (Kd.R (Kd.int .i64) 2 wc w.heap.size (fun k_ => some k_ ≠ ((.slice Ao31 t213.length co31) : Value).ownBlock ∧ some k_ ≠ ((.slice Ao38 t194.length co38) : Value).ownBlock ∧ some k_ ≠ ((.slice Ao120 t227.length co120) : Value).ownBlock) (.slice Ao24 t177.length co24) t177) ∧ Aside0 (Kd.R k62 62 wc w.heap.size (fun k_ => some k_ ≠ ((.slice Ao35 t214.length co35) : Value).ownBlock ∧ some k_ ≠ ((.slice Ao43 t197.length co43) : Value).ownBlock ∧ some k_ ≠ ((.slice Ao126 t230.length co126) : Value).ownBlock) (.slice Ao27 t180.length co27) t180) ∧ Aside0 (Kd.R (Kd.int .i64) 2 wc w.heap.size (fun k_ => some k_ ≠ ((.slice Ao24 t177.length co24) : Value).ownBlock ∧ some k_ ≠ ((.slice Ao38 t194.length co38) : Value).ownBlock ∧ some k_ ≠ ((.slice Ao120 t227.length co120) : Value).ownBlock) (.slice Ao31 t213.length co31) t213) ∧ Aside0 (Kd.R k62 62 wc w.heap.size (fun k_ => some k_ ≠ ((.slice Ao27 t180.length co27) : Value).ownBlock ∧ some k_ ≠ ((.slice Ao43 t197.length co43) : Value).ownBlock ∧ some k_ ≠ ((.slice Ao126 t230.length co126) : Value).ownBlock) (.slice Ao35 t214.length co35) t214) ∧ Aside0 (Kd.R (Kd.int .i64) 2 wc w.heap.size (fun k_ => some k_ ≠ ((.slice Ao24 t177.length co24) : Value).ownBlock ∧ some k_ ≠ ((.slice Ao31 t213.length co31) : Value).ownBlock ∧ some k_ ≠ ((.slice Ao120 t227.length co120) : Value).ownBlock) (.slice Ao38 t194.length co38) t217) ∧ Aside0 (Kd.R k62 62 wc w.heap.size (fun k_ => some k_ ≠ ((.slice Ao27 t180.length co27) : Value).ownBlock ∧ some k_ ≠ ((.slice Ao35 t214.length co35) : Value).ownBlock ∧ some k_ ≠ ((.slice Ao126 t230.length co126) : Value).ownBlock) (.slice Ao43 t197.length co43) t218) ∧ Aside0 (Kd.R (Kd.int .i64) 2 wc w.heap.size (fun k_ => some k_ ≠ ((.slice Ao24 t177.length co24) : Value).ownBlock ∧ some k_ ≠ ((.slice Ao31 t213.length co31) : Value).ownBlock ∧ some k_ ≠ ((.slice Ao38 t194.length co38) : Value).ownBlock) (.slice Ao120 t227.length co120) t227) ∧ Aside0 (Kd.R k62 62 wc w.heap.size (fun k_ => some k_ ≠ ((.slice Ao27 t180.length co27) : Value).ownBlock ∧ some k_ ≠ ((.slice Ao35 t214.length co35) : Value).ownBlock ∧ some k_ ≠ ((.slice Ao43 t197.length co43) : Value).ownBlock) (.slice Ao126 t230.length co126) t230) ∧ Aside0 (wc.heap[gb168]? = some (.cells #[(.slice A0_0 l0_0.length c0_0), (.slice A0_1 l0_1.length c0_1), .int .i64 a0_2] 40 (0, 0))) ∧ Aside0 (wc.heap[gb185]? = some (.cells #[(.slice Ao24 t177.length co24), (.slice Ao27 t180.length co27), .int .i64 t183] 25 (0, 0))) ∧ Aside0 (wc.heap[gb193]? = some (.cells #[(.slice Ao31 t213.length co31), (.slice Ao35 t214.length co35), .int .i64 t192] 25 (0, 0))) ∧ Aside0 (wc.heap[gb202]? = some (.cells #[(.slice Ao38 t194.length co38), (.slice Ao43 t197.length co43), .int .i64 t200] 25 (0, 0))) ∧ Aside0 (wc.heap[gb235]? = some (.cells #[(.slice Ao120 t227.length co120), (.slice Ao126 t230.length co126), .int .i64 t233] 25 (0, 0))) ∧ Aside0 (Below w.heap.size w wc))
           case first =>
            have H := HC104.out
            clear HC104
            replace H := Option.bind_eq_some_iff.mp H
            obtain ⟨t236, A1270, H⟩ := H
            replace H : (if t236 = true then (laws_FnExactDictPut.j2 kj66 t216 (t234 != t184) t217 t218 t200) else (laws_FnExactDictPut.j2 kj66 t216 true t217 t218 t200)) = some r := H
            have A127 := Aside0.mk A1270
            clear A1270
            by_cases c128 : t236 = true
            ·subst c128
             have H1 : (laws_FnExactDictPut.j2 kj66 t216 (t234 != t184) t217 t218 t200) = some r := by rw [if_pos rfl] at H; exact H
             clear H
             have H := H1
             clear H1
             have H' := Aside0.mk H
             clear H
             have hnb129 := NB235_168.out
             have hnc129 := NB168_235.out
             have hnb130 := NB235_185.out
             have hnc130 := NB185_235.out
             have hnb131 := NB235_193.out
             have hnc131 := NB193_235.out
             have hnb132 := NB235_202.out
             have hnc132 := NB202_235.out
             have hcz133_0 : w119.cell? ⟨gb235, 0, none⟩ = some (.slice none 0 0) := (blk_cell BK235.out 0).trans rfl
             have hcz133_1 : w119.cell? ⟨gb235, 1, none⟩ = some (.slice none 0 0) := (blk_cell BK235.out 1).trans rfl
             have hcz133_2 : w119.cell? ⟨gb235, 2, none⟩ = some (.int .i64 0) := (blk_cell BK235.out 2).trans rfl
             have hfz133_0 := blk_frozen BK235.out 0
             have hfz133_1 := blk_frozen BK235.out 1
             have hfz133_2 := blk_frozen BK235.out 2
             have hnb134 := NB185_168.out
             have hnc134 := NB168_185.out
             have hnb135 := NB185_193.out
             have hnc135 := NB193_185.out
             have hnb136 := NB185_202.out
             have hnc136 := NB202_185.out
             have hcz137_0 : w119.cell? ⟨gb185, 0, none⟩ = some (.slice Ao24 t177.length co24) := (blk_cell BK185.out 0).trans rfl
             have hcz137_1 : w119.cell? ⟨gb185, 1, none⟩ = some (.slice Ao27 t180.length co27) := (blk_cell BK185.out 1).trans rfl
             have hcz137_2 : w119.cell? ⟨gb185, 2, none⟩ = some (.int .i64 t183) := (blk_cell BK185.out 2).trans rfl
             have hfz137_0 := blk_frozen BK185.out 0
             have hfz137_1 := blk_frozen BK185.out 1
             have hfz137_2 := blk_frozen BK185.out 2
             go_wp2_with (first | ((with_reducible refine gate_callee (f := 13) rfl ?_); refine goesL_ (some 96) rfl rfl Try.func13 qdp4_28 rfl #[.agg #[.slice Ao120 t227.length co120, .slice Ao126 t230.length co126, .int .i64 t233], .agg #[.slice Ao24 t177.length co24, .slice Ao27 t180.length co27, .int .i64 t183]] rfl qdp4_10 ?_; (with_reducible refine (laws_eqDict.calls kj66 _ _ t227 _ _ t230 t233 _ _ t177 _ _ t180 t183 true _ ?side1 ?side2 ?side3 ?side4 ?side5 ?side6 ?side7 ?side8 A127.out).mono ?_); (case side1 => exact qdp4_19); (case side2 => exact (Kd.R_reads' HO229.out).2.1); (case side3 => exact qdp4_18); (case side4 => exact (Kd.R_reads' HO232.out).2.1); (case side5 => exact qdp4_21); (case side6 => exact (Kd.R_reads' HO_186000.out).2.1); (case side7 => exact qdp4_20); (case side8 => exact (Kd.R_reads' HO_186001.out).2.1); rintro e w138 ⟨rfl, hb⟩; refine ⟨_, rfl, ?_⟩; have n0_ := Aside0.mk (Kd.R_below (qdp4_1 HO_186000 BK235) hb); have n1_ := Aside0.mk (Kd.R_below (qdp4_1 HO_186001 BK235) hb); have n2_ := Aside0.mk (Kd.R_below (qdp4_1 HO_194000 BK235) hb); have n3_ := Aside0.mk (Kd.R_below (qdp4_1 HO_194001 BK235) hb); have n4_ := Aside0.mk (Kd.R_below (qdp4_1 HO_203000 BK235) hb); have n5_ := Aside0.mk (Kd.R_below (qdp4_1 HO_203001 BK235) hb); have n6_ := Aside0.mk (Kd.R_below (qdp4_1 HO222 BK235) hb); have n7_ := Aside0.mk (Kd.R_below (qdp4_1 HO225 BK235) hb); have n8_ := Aside0.mk (Kd.R_below (qdp4_1 HO229 BK235) hb); have n9_ := Aside0.mk (Kd.R_below (qdp4_1 HO232 BK235) hb); have n10_ := Aside0.mk (blk_below (g := gb168) (o := .cells #[.slice A0_0 l0_0.length c0_0, .slice A0_1 l0_1.length c0_1, .int .i64 a0_2] 40 (0, 0)) (qdp4_4 NB168_235 BK168) hb); have n11_ := Aside0.mk (blk_below (g := gb185) (o := .cells #[.slice Ao24 t177.length co24, .slice Ao27 t180.length co27, .int .i64 t183] 25 (0, 0)) (qdp4_4 NB185_235 BK185) hb); have n12_ := Aside0.mk (blk_below (g := gb193) (o := .cells #[.slice Ao31 t213.length co31, .slice Ao35 t214.length co35, .int .i64 t192] 25 (0, 0)) (qdp4_4 NB193_235 BK193) hb); have n13_ := Aside0.mk (blk_below (g := gb202) (o := .cells #[.slice Ao38 t194.length co38, .slice Ao43 t197.length co43, .int .i64 t200] 25 (0, 0)) (qdp4_4 NB202_235 BK202) hb); have n14_ := Aside0.mk (blk_below (g := gb235) (o := .cells #[.slice Ao120 t227.length co120, .slice Ao126 t230.length co126, .int .i64 t233] 25 (0, 0)) (qdp4_15 BK235) hb); have n15_ := Aside0.mk (below_step (qdp4_26 HB GE168 GE185 GE193 GE202 GE235) hb); clear HO_186000; clear HO_186001; clear HO_194000; clear HO_194001; clear HO_203000; clear HO_203001; clear HO222; clear HO225; clear HO229; clear HO232; clear BK168; clear BK185; clear BK193; clear BK202; clear BK235; clear HB; have HO_186000 := n0_; have HO_186001 := n1_; have HO_194000 := n2_; have HO_194001 := n3_; have HO_203000 := n4_; have HO_203001 := n5_; have HO222 := n6_; have HO225 := n7_; have HO229 := n8_; have HO232 := n9_; have BK168 := n10_; have BK185 := n11_; have BK193 := n12_; have BK202 := n13_; have BK235 := n14_; have HB := n15_; clear n0_ n1_ n2_ n3_ n4_ n5_ n6_ n7_ n8_ n9_ n10_ n11_ n12_ n13_ n14_ n15_; (try clear hb); (try clear hb2); (try clear hk); (try clear hi)))
             go_meet
             case rel => exact ⟨_, ((t234 != t184)), qdp4_27, H', ⟨by have := HJ13.out; have := HJ66.out; first | omega | exact Nat.le_refl _⟩, ⟨by (try simp only [hl194000_66]); (try simp only [hl194001_66]); (with_reducible repeat (first | apply Kd.R_alloc | apply Kd.R_drewN | apply Kd.R_drew)); exact Kd.R_mono HO_186000.out (fun _ hk => ⟨hk.1.1.1, ⟨hk.1.1.2, hk.2⟩⟩)⟩, ⟨by (try simp only [hl194000_66]); (try simp only [hl194001_66]); (with_reducible repeat (first | apply Kd.R_alloc | apply Kd.R_drewN | apply Kd.R_drew)); exact Kd.R_mono HO_186001.out (fun _ hk => ⟨hk.1.1.1, ⟨hk.1.1.2, hk.2⟩⟩)⟩, ⟨by (try simp only [hl194000_66]); (try simp only [hl194001_66]); (with_reducible repeat (first | apply Kd.R_alloc | apply Kd.R_drewN | apply Kd.R_drew)); exact Kd.R_mono HO_194000.out (fun _ hk => ⟨hk.1.1.1, ⟨hk.1.1.2, hk.2⟩⟩)⟩, ⟨by (try simp only [hl194000_66]); (try simp only [hl194001_66]); (with_reducible repeat (first | apply Kd.R_alloc | apply Kd.R_drewN | apply Kd.R_drew)); exact Kd.R_mono HO_194001.out (fun _ hk => ⟨hk.1.1.1, ⟨hk.1.1.2, hk.2⟩⟩)⟩, ⟨by (try simp only [hl194000_66]); (try simp only [hl194001_66]); (with_reducible repeat (first | apply Kd.R_alloc | apply Kd.R_drewN | apply Kd.R_drew)); exact Kd.R_mono HO_203000.out (fun _ hk => ⟨hk.1.1.1, ⟨hk.1.1.2, hk.2⟩⟩)⟩, ⟨by (try simp only [hl194000_66]); (try simp only [hl194001_66]); (with_reducible repeat (first | apply Kd.R_alloc | apply Kd.R_drewN | apply Kd.R_drew)); exact Kd.R_mono HO_203001.out (fun _ hk => ⟨hk.1.1.1, ⟨hk.1.1.2, hk.2⟩⟩)⟩, ⟨by (try simp only [hl194000_66]); (try simp only [hl194001_66]); (with_reducible repeat (first | apply Kd.R_alloc | apply Kd.R_drewN | apply Kd.R_drew)); exact Kd.R_mono HO229.out (fun _ hk => ⟨hk.1.1.1.2, ⟨hk.1.1.2, hk.1.2⟩⟩)⟩, ⟨by (try simp only [hl194000_66]); (try simp only [hl194001_66]); (with_reducible repeat (first | apply Kd.R_alloc | apply Kd.R_drewN | apply Kd.R_drew)); exact Kd.R_mono HO232.out (fun _ hk => ⟨hk.1.1.1.2, ⟨hk.1.1.2, hk.1.2⟩⟩)⟩, ⟨by (try simp only [hl194000_66]); (try simp only [hl194001_66]); (with_reducible repeat (first | refine blk_drewN ?_ _ | refine blk_drew ?_ | refine blk_alloc ?_ _)); exact BK168.out⟩, ⟨by (try simp only [hl194000_66]); (try simp only [hl194001_66]); (with_reducible repeat (first | refine blk_drewN ?_ _ | refine blk_drew ?_ | refine blk_alloc ?_ _)); exact BK185.out⟩, ⟨by (try simp only [hl194000_66]); (try simp only [hl194001_66]); (with_reducible repeat (first | refine blk_drewN ?_ _ | refine blk_drew ?_ | refine blk_alloc ?_ _)); exact BK193.out⟩, ⟨by (try simp only [hl194000_66]); (try simp only [hl194001_66]); (with_reducible repeat (first | refine blk_drewN ?_ _ | refine blk_drew ?_ | refine blk_alloc ?_ _)); exact BK202.out⟩, ⟨by (try simp only [hl194000_66]); (try simp only [hl194001_66]); (with_reducible repeat (first | refine blk_drewN ?_ _ | refine blk_drew ?_ | refine blk_alloc ?_ _)); exact BK235.out⟩, ⟨by repeat (first | (with_reducible first | exact HB.out | apply below_alloc | apply pw_below_drewN | apply below_drew1 | refine below_set ?_ GE168.out | refine below_set ?_ GE185.out | refine below_set ?_ GE193.out | refine below_set ?_ GE202.out | refine below_set ?_ GE235.out) | exact HB.out)⟩⟩
            ·replace c128 := Bool.eq_false_iff.mpr c128
             subst c128
             have H1 : (laws_FnExactDictPut.j2 kj66 t216 true t217 t218 t200) = some r := by rw [if_neg (show ¬ (false = true) by decide)] at H; exact H
             clear H
             have H := H1
             clear H1
             have H' := Aside0.mk H
             clear H
             have hnb139 := NB235_168.out
             have hnc139 := NB168_235.out
             have hnb140 := NB235_185.out
             have hnc140 := NB185_235.out
             have hnb141 := NB235_193.out
             have hnc141 := NB193_235.out
             have hnb142 := NB235_202.out
             have hnc142 := NB202_235.out
             have hcz143_0 : w119.cell? ⟨gb235, 0, none⟩ = some (.slice none 0 0) := (blk_cell BK235.out 0).trans rfl
             have hcz143_1 : w119.cell? ⟨gb235, 1, none⟩ = some (.slice none 0 0) := (blk_cell BK235.out 1).trans rfl
             have hcz143_2 : w119.cell? ⟨gb235, 2, none⟩ = some (.int .i64 0) := (blk_cell BK235.out 2).trans rfl
             have hfz143_0 := blk_frozen BK235.out 0
             have hfz143_1 := blk_frozen BK235.out 1
             have hfz143_2 := blk_frozen BK235.out 2
             have hnb144 := NB185_168.out
             have hnc144 := NB168_185.out
             have hnb145 := NB185_193.out
             have hnc145 := NB193_185.out
             have hnb146 := NB185_202.out
             have hnc146 := NB202_185.out
             have hcz147_0 : w119.cell? ⟨gb185, 0, none⟩ = some (.slice Ao24 t177.length co24) := (blk_cell BK185.out 0).trans rfl
             have hcz147_1 : w119.cell? ⟨gb185, 1, none⟩ = some (.slice Ao27 t180.length co27) := (blk_cell BK185.out 1).trans rfl
             have hcz147_2 : w119.cell? ⟨gb185, 2, none⟩ = some (.int .i64 t183) := (blk_cell BK185.out 2).trans rfl
             have hfz147_0 := blk_frozen BK185.out 0
             have hfz147_1 := blk_frozen BK185.out 1
             have hfz147_2 := blk_frozen BK185.out 2
             go_wp2_with (first | ((with_reducible refine gate_callee (f := 13) rfl ?_); refine goesL_ (some 96) rfl rfl Try.func13 qdp4_28 rfl #[.agg #[.slice Ao120 t227.length co120, .slice Ao126 t230.length co126, .int .i64 t233], .agg #[.slice Ao24 t177.length co24, .slice Ao27 t180.length co27, .int .i64 t183]] rfl qdp4_10 ?_; (with_reducible refine (laws_eqDict.calls kj66 _ _ t227 _ _ t230 t233 _ _ t177 _ _ t180 t183 false _ ?side1 ?side2 ?side3 ?side4 ?side5 ?side6 ?side7 ?side8 A127.out).mono ?_); (case side1 => exact qdp4_19); (case side2 => exact (Kd.R_reads' HO229.out).2.1); (case side3 => exact qdp4_18); (case side4 => exact (Kd.R_reads' HO232.out).2.1); (case side5 => exact qdp4_21); (case side6 => exact (Kd.R_reads' HO_186000.out).2.1); (case side7 => exact qdp4_20); (case side8 => exact (Kd.R_reads' HO_186001.out).2.1); rintro e w148 ⟨rfl, hb⟩; refine ⟨_, rfl, ?_⟩; have n0_ := Aside0.mk (Kd.R_below (qdp4_1 HO_186000 BK235) hb); have n1_ := Aside0.mk (Kd.R_below (qdp4_1 HO_186001 BK235) hb); have n2_ := Aside0.mk (Kd.R_below (qdp4_1 HO_194000 BK235) hb); have n3_ := Aside0.mk (Kd.R_below (qdp4_1 HO_194001 BK235) hb); have n4_ := Aside0.mk (Kd.R_below (qdp4_1 HO_203000 BK235) hb); have n5_ := Aside0.mk (Kd.R_below (qdp4_1 HO_203001 BK235) hb); have n6_ := Aside0.mk (Kd.R_below (qdp4_1 HO222 BK235) hb); have n7_ := Aside0.mk (Kd.R_below (qdp4_1 HO225 BK235) hb); have n8_ := Aside0.mk (Kd.R_below (qdp4_1 HO229 BK235) hb); have n9_ := Aside0.mk (Kd.R_below (qdp4_1 HO232 BK235) hb); have n10_ := Aside0.mk (blk_below (g := gb168) (o := .cells #[.slice A0_0 l0_0.length c0_0, .slice A0_1 l0_1.length c0_1, .int .i64 a0_2] 40 (0, 0)) (qdp4_4 NB168_235 BK168) hb); have n11_ := Aside0.mk (blk_below (g := gb185) (o := .cells #[.slice Ao24 t177.length co24, .slice Ao27 t180.length co27, .int .i64 t183] 25 (0, 0)) (qdp4_4 NB185_235 BK185) hb); have n12_ := Aside0.mk (blk_below (g := gb193) (o := .cells #[.slice Ao31 t213.length co31, .slice Ao35 t214.length co35, .int .i64 t192] 25 (0, 0)) (qdp4_4 NB193_235 BK193) hb); have n13_ := Aside0.mk (blk_below (g := gb202) (o := .cells #[.slice Ao38 t194.length co38, .slice Ao43 t197.length co43, .int .i64 t200] 25 (0, 0)) (qdp4_4 NB202_235 BK202) hb); have n14_ := Aside0.mk (blk_below (g := gb235) (o := .cells #[.slice Ao120 t227.length co120, .slice Ao126 t230.length co126, .int .i64 t233] 25 (0, 0)) (qdp4_15 BK235) hb); have n15_ := Aside0.mk (below_step (qdp4_26 HB GE168 GE185 GE193 GE202 GE235) hb); clear HO_186000; clear HO_186001; clear HO_194000; clear HO_194001; clear HO_203000; clear HO_203001; clear HO222; clear HO225; clear HO229; clear HO232; clear BK168; clear BK185; clear BK193; clear BK202; clear BK235; clear HB; have HO_186000 := n0_; have HO_186001 := n1_; have HO_194000 := n2_; have HO_194001 := n3_; have HO_203000 := n4_; have HO_203001 := n5_; have HO222 := n6_; have HO225 := n7_; have HO229 := n8_; have HO232 := n9_; have BK168 := n10_; have BK185 := n11_; have BK193 := n12_; have BK202 := n13_; have BK235 := n14_; have HB := n15_; clear n0_ n1_ n2_ n3_ n4_ n5_ n6_ n7_ n8_ n9_ n10_ n11_ n12_ n13_ n14_ n15_; (try clear hb); (try clear hb2); (try clear hk); (try clear hi)))
             go_meet
             case rel => exact ⟨_, (true), qdp4_27, H', ⟨by have := HJ13.out; have := HJ66.out; first | omega | exact Nat.le_refl _⟩, ⟨by (try simp only [hl194000_66]); (try simp only [hl194001_66]); (with_reducible repeat (first | apply Kd.R_alloc | apply Kd.R_drewN | apply Kd.R_drew)); exact Kd.R_mono HO_186000.out (fun _ hk => ⟨hk.1.1.1, ⟨hk.1.1.2, hk.2⟩⟩)⟩, ⟨by (try simp only [hl194000_66]); (try simp only [hl194001_66]); (with_reducible repeat (first | apply Kd.R_alloc | apply Kd.R_drewN | apply Kd.R_drew)); exact Kd.R_mono HO_186001.out (fun _ hk => ⟨hk.1.1.1, ⟨hk.1.1.2, hk.2⟩⟩)⟩, ⟨by (try simp only [hl194000_66]); (try simp only [hl194001_66]); (with_reducible repeat (first | apply Kd.R_alloc | apply Kd.R_drewN | apply Kd.R_drew)); exact Kd.R_mono HO_194000.out (fun _ hk => ⟨hk.1.1.1, ⟨hk.1.1.2, hk.2⟩⟩)⟩, ⟨by (try simp only [hl194000_66]); (try simp only [hl194001_66]); (with_reducible repeat (first | apply Kd.R_alloc | apply Kd.R_drewN | apply Kd.R_drew)); exact Kd.R_mono HO_194001.out (fun _ hk => ⟨hk.1.1.1, ⟨hk.1.1.2, hk.2⟩⟩)⟩, ⟨by (try simp only [hl194000_66]); (try simp only [hl194001_66]); (with_reducible repeat (first | apply Kd.R_alloc | apply Kd.R_drewN | apply Kd.R_drew)); exact Kd.R_mono HO_203000.out (fun _ hk => ⟨hk.1.1.1, ⟨hk.1.1.2, hk.2⟩⟩)⟩, ⟨by (try simp only [hl194000_66]); (try simp only [hl194001_66]); (with_reducible repeat (first | apply Kd.R_alloc | apply Kd.R_drewN | apply Kd.R_drew)); exact Kd.R_mono HO_203001.out (fun _ hk => ⟨hk.1.1.1, ⟨hk.1.1.2, hk.2⟩⟩)⟩, ⟨by (try simp only [hl194000_66]); (try simp only [hl194001_66]); (with_reducible repeat (first | apply Kd.R_alloc | apply Kd.R_drewN | apply Kd.R_drew)); exact Kd.R_mono HO229.out (fun _ hk => ⟨hk.1.1.1.2, ⟨hk.1.1.2, hk.1.2⟩⟩)⟩, ⟨by (try simp only [hl194000_66]); (try simp only [hl194001_66]); (with_reducible repeat (first | apply Kd.R_alloc | apply Kd.R_drewN | apply Kd.R_drew)); exact Kd.R_mono HO232.out (fun _ hk => ⟨hk.1.1.1.2, ⟨hk.1.1.2, hk.1.2⟩⟩)⟩, ⟨by (try simp only [hl194000_66]); (try simp only [hl194001_66]); (with_reducible repeat (first | refine blk_drewN ?_ _ | refine blk_drew ?_ | refine blk_alloc ?_ _)); exact BK168.out⟩, ⟨by (try simp only [hl194000_66]); (try simp only [hl194001_66]); (with_reducible repeat (first | refine blk_drewN ?_ _ | refine blk_drew ?_ | refine blk_alloc ?_ _)); exact BK185.out⟩, ⟨by (try simp only [hl194000_66]); (try simp only [hl194001_66]); (with_reducible repeat (first | refine blk_drewN ?_ _ | refine blk_drew ?_ | refine blk_alloc ?_ _)); exact BK193.out⟩, ⟨by (try simp only [hl194000_66]); (try simp only [hl194001_66]); (with_reducible repeat (first | refine blk_drewN ?_ _ | refine blk_drew ?_ | refine blk_alloc ?_ _)); exact BK202.out⟩, ⟨by (try simp only [hl194000_66]); (try simp only [hl194001_66]); (with_reducible repeat (first | refine blk_drewN ?_ _ | refine blk_drew ?_ | refine blk_alloc ?_ _)); exact BK235.out⟩, ⟨by repeat (first | (with_reducible first | exact HB.out | apply below_alloc | apply pw_below_drewN | apply below_drew1 | refine below_set ?_ GE168.out | refine below_set ?_ GE185.out | refine below_set ?_ GE193.out | refine below_set ?_ GE202.out | refine below_set ?_ GE235.out) | exact HB.out)⟩⟩
           case rest =>
            clear HC104
            try clear c1
            try clear c2
            try clear p2
            try clear c3
            try clear c4
            try clear c5
            try clear c6
            try clear c6b0
            try clear c7
            try clear c8
            try clear c9
            try clear c10
            try clear c11
            try clear c12
            try clear c13
            try clear c14
            try clear c15
            try clear c19
            try clear c21
            try clear c25
            try clear c32
            try clear c33
            try clear c36
            try clear c38
            try clear c39
            try clear c40
            try clear c41
            try clear c45
            try clear c46
            try clear c47
            try clear c48
            try clear c50
            try clear c51
            try clear c54
            try clear c55
            try clear c56
            try clear c58
            try clear c59
            try clear c62
            try clear c65
            try clear c73
            try clear c74
            try clear c75
            try clear c78
            try clear c78b0
            try clear c80
            try clear c81
            try clear c82
            try clear c83
            try clear c85
            try clear c86
            try clear c89
            try clear c90
            try clear c91
            try clear c93
            try clear c94
            try clear c97
            try clear c100
            try clear c100b0
            try clear c101
            try clear c101b0
            try clear c101b1
            try clear c105
            try clear c106
            try clear c107
            try clear c112
            try clear c113
            try clear c121
            try clear c122
            try clear c123
            try clear c124
            try clear c128
            try clear c129
            try clear c130
            try clear c131
            try clear c132
            try clear c134
            try clear c135
            try clear c136
            try clear c139
            try clear c140
            try clear c141
            try clear c142
            try clear c144
            try clear c145
            try clear c146
            try clear hcz108_0
            try clear hcz108_1
            try clear hcz108_2
            try clear hcz110_0
            try clear hcz110_1
            try clear hcz110_2
            try clear hcz114_0
            try clear hcz114_1
            try clear hcz114_2
            try clear hcz125_0
            try clear hcz125_1
            try clear hcz125_2
            try clear hcz133_0
            try clear hcz133_1
            try clear hcz133_2
            try clear hcz137_0
            try clear hcz137_1
            try clear hcz137_2
            try clear hcz143_0
            try clear hcz143_1
            try clear hcz143_2
            try clear hcz147_0
            try clear hcz147_1
            try clear hcz147_2
            try clear hcz16_0
            try clear hcz16_1
            try clear hcz16_2
            try clear hcz18_0
            try clear hcz18_1
            try clear hcz18_2
            try clear hcz26_0
            try clear hcz26_1
            try clear hcz26_2
            try clear hcz28_0
            try clear hcz28_1
            try clear hcz28_2
            try clear hcz34_0
            try clear hcz34_1
            try clear hcz34_2
            try clear hcz42_0
            try clear hcz42_1
            try clear hcz42_2
            try clear hcz49_0
            try clear hcz49_1
            try clear hcz49_2
            try clear hcz52_0
            try clear hcz52_1
            try clear hcz52_2
            try clear hcz57_0
            try clear hcz57_1
            try clear hcz57_2
            try clear hcz60_0
            try clear hcz60_1
            try clear hcz60_2
            try clear hcz76_0
            try clear hcz76_1
            try clear hcz76_2
            try clear hcz84_0
            try clear hcz84_1
            try clear hcz84_2
            try clear hcz87_0
            try clear hcz87_1
            try clear hcz87_2
            try clear hcz8_0
            try clear hcz8_1
            try clear hcz8_2
            try clear hcz92_0
            try clear hcz92_1
            try clear hcz92_2
            try clear hcz95_0
            try clear hcz95_1
            try clear hcz95_2
            try clear hfz108_0
            try clear hfz108_1
            try clear hfz108_2
            try clear hfz110_0
            try clear hfz110_1
            try clear hfz110_2
            try clear hfz114_0
            try clear hfz114_1
            try clear hfz114_2
            try clear hfz125_0
            try clear hfz125_1
            try clear hfz125_2
            try clear hfz133_0
            try clear hfz133_1
            try clear hfz133_2
            try clear hfz137_0
            try clear hfz137_1
            try clear hfz137_2
            try clear hfz143_0
            try clear hfz143_1
            try clear hfz143_2
            try clear hfz147_0
            try clear hfz147_1
            try clear hfz147_2
            try clear hfz16_0
            try clear hfz16_1
            try clear hfz16_2
            try clear hfz18_0
            try clear hfz18_1
            try clear hfz18_2
            try clear hfz26_0
            try clear hfz26_1
            try clear hfz26_2
            try clear hfz28_0
            try clear hfz28_1
            try clear hfz28_2
            try clear hfz34_0
            try clear hfz34_1
            try clear hfz34_2
            try clear hfz42_0
            try clear hfz42_1
            try clear hfz42_2
            try clear hfz49_0
            try clear hfz49_1
            try clear hfz49_2
            try clear hfz52_0
            try clear hfz52_1
            try clear hfz52_2
            try clear hfz57_0
            try clear hfz57_1
            try clear hfz57_2
            try clear hfz60_0
            try clear hfz60_1
            try clear hfz60_2
            try clear hfz76_0
            try clear hfz76_1
            try clear hfz76_2
            try clear hfz84_0
            try clear hfz84_1
            try clear hfz84_2
            try clear hfz87_0
            try clear hfz87_1
            try clear hfz87_2
            try clear hfz8_0
            try clear hfz8_1
            try clear hfz8_2
            try clear hfz92_0
            try clear hfz92_1
            try clear hfz92_2
            try clear hfz95_0
            try clear hfz95_1
            try clear hfz95_2
            try clear p2
            obtain ⟨kq, x102_103, rfl, HA, HJ103, HO_186000, HO_186001, HO_194000, HO_194001, HO_203000, HO_203001, HO_236000, HO_236001, BK168, BK185, BK193, BK202, BK235, HB⟩ := hcut
            have hl203000_103 := (Kd.R_reads' HO_203000.out).1
            rw [hl203000_103] at HO_203000
            (try simp only [hl203000_103])
            (try simp only [hl203000_103] at BK168)
            (try simp only [hl203000_103] at BK185)
            (try simp only [hl203000_103] at BK193)
            (try simp only [hl203000_103] at BK202)
            (try simp only [hl203000_103] at BK235)
            (try simp only [hl203000_103] at HO_186000)
            (try simp only [hl203000_103] at HO_186001)
            (try simp only [hl203000_103] at HO_194000)
            (try simp only [hl203000_103] at HO_194001)
            (try simp only [hl203000_103] at HO_203001)
            (try simp only [hl203000_103] at HO_236000)
            (try simp only [hl203000_103] at HO_236001)
            have hl203001_103 := (Kd.R_reads' HO_203001.out).1
            rw [hl203001_103] at HO_203001
            (try simp only [hl203001_103])
            (try simp only [hl203001_103] at BK168)
            (try simp only [hl203001_103] at BK185)
            (try simp only [hl203001_103] at BK193)
            (try simp only [hl203001_103] at BK202)
            (try simp only [hl203001_103] at BK235)
            (try simp only [hl203001_103] at HO_186000)
            (try simp only [hl203001_103] at HO_186001)
            (try simp only [hl203001_103] at HO_194000)
            (try simp only [hl203001_103] at HO_194001)
            (try simp only [hl203001_103] at HO_203000)
            (try simp only [hl203001_103] at HO_236000)
            (try simp only [hl203001_103] at HO_236001)
            cases kq with
            | zero => exact absurd HA.out (by simp [laws_FnExactDictPut.j2])
            | succ kj103 =>
             have H := HA.out
             clear HA
             simp only [laws_FnExactDictPut.j2] at H
             by_cases c149 : x102_103 = true
             ·subst c149
              have H1 : (none) = some r := by rw [if_pos rfl] at H; exact H
              clear H
              have H := H1
              clear H1
              exact absurd H (by simp)
             ·replace c149 := Bool.eq_false_iff.mpr c149
              subst c149
              have H1 : ((laws_heldDict.f kj103 t217 t218 t200 1).bind fun t237 => (if t237 < 0 then (none) else (if t237 = t216 then (some true) else (none)))) = some r := by rw [if_neg (show ¬ (false = true) by decide)] at H; exact H
              clear H
              have H := H1
              clear H1
              replace H := Option.bind_eq_some_iff.mp H
              obtain ⟨t237, A1500, H⟩ := H
              replace H : (if t237 < 0 then (none) else (if t237 = t216 then (some true) else (none))) = some r := H
              have A150 := Aside0.mk A1500
              clear A1500
              by_cases c151 : t237 < 0
              ·rw [if_pos c151] at H
               exact absurd H (by simp)
              ·rw [if_neg c151] at H
               have c151b0 : decide (t237 < 0) = false := decide_eq_false c151
               clear c151
               by_cases c152 : t237 = t216
               ·rw [if_pos c152] at H
                have c152b0 : (t237 == t216) = true := beq_iff_eq.mpr c152
                have c152b1 : (t237 != t216) = false := bne_eq_false_iff_eq.mpr c152
                clear c152
                obtain rfl := Option.some.inj H
                have hnb153 := NB202_168.out
                have hnc153 := NB168_202.out
                have hnb154 := NB202_185.out
                have hnc154 := NB185_202.out
                have hnb155 := NB202_193.out
                have hnc155 := NB193_202.out
                have hnb156 := NB202_235.out
                have hnc156 := NB235_202.out
                have hcz157_0 : wc.cell? ⟨gb202, 0, none⟩ = some (.slice Ao38 t217.length co38) := (blk_cell BK202.out 0).trans rfl
                have hcz157_1 : wc.cell? ⟨gb202, 1, none⟩ = some (.slice Ao43 t218.length co43) := (blk_cell BK202.out 1).trans rfl
                have hcz157_2 : wc.cell? ⟨gb202, 2, none⟩ = some (.int .i64 t200) := (blk_cell BK202.out 2).trans rfl
                have hfz157_0 := blk_frozen BK202.out 0
                have hfz157_1 := blk_frozen BK202.out 1
                have hfz157_2 := blk_frozen BK202.out 2
                go_wp2_with (first | ((with_reducible refine gate_callee (f := 15) rfl ?_); refine goesL_ (some 105) rfl rfl Try.func15 qdp4_28 rfl #[.agg #[.slice Ao38 t217.length co38, .slice Ao43 t218.length co43, .int .i64 t200], .int .i64 1] rfl qdp4_10 ?_; (with_reducible refine (laws_heldDict.calls kj103 _ _ t217 _ _ t218 t200 1 t237 _ ?side1 ?side2 ?side3 ?side4 A150.out).mono ?_); (case side1 => exact (qdp4_8 HO_203000)); (case side2 => exact (Kd.R_reads' HO_203000.out).2.1); (case side3 => exact (qdp4_8 HO_203001)); (case side4 => exact (Kd.R_reads' HO_203001.out).2.1); rintro e w158 ⟨rfl, hb⟩; refine ⟨_, rfl, ?_⟩; have n0_ := Aside0.mk (Kd.R_below (qdp4_2 HO_186000) hb); have n1_ := Aside0.mk (Kd.R_below (qdp4_2 HO_186001) hb); have n2_ := Aside0.mk (Kd.R_below (qdp4_2 HO_194000) hb); have n3_ := Aside0.mk (Kd.R_below (qdp4_2 HO_194001) hb); have n4_ := Aside0.mk (Kd.R_below (qdp4_2 HO_203000) hb); have n5_ := Aside0.mk (Kd.R_below (qdp4_2 HO_203001) hb); have n6_ := Aside0.mk (Kd.R_below (qdp4_2 HO_236000) hb); have n7_ := Aside0.mk (Kd.R_below (qdp4_2 HO_236001) hb); have n8_ := Aside0.mk (blk_below (g := gb168) (o := .cells #[.slice A0_0 l0_0.length c0_0, .slice A0_1 l0_1.length c0_1, .int .i64 a0_2] 40 (0, 0)) (qdp4_5 BK168) hb); have n9_ := Aside0.mk (blk_below (g := gb185) (o := .cells #[.slice Ao24 t177.length co24, .slice Ao27 t180.length co27, .int .i64 t183] 25 (0, 0)) (qdp4_5 BK185) hb); have n10_ := Aside0.mk (blk_below (g := gb193) (o := .cells #[.slice Ao31 t213.length co31, .slice Ao35 t214.length co35, .int .i64 t192] 25 (0, 0)) (qdp4_5 BK193) hb); have n11_ := Aside0.mk (blk_below (g := gb202) (o := .cells #[.slice Ao38 t217.length co38, .slice Ao43 t218.length co43, .int .i64 t200] 25 (0, 0)) (qdp4_5 BK202) hb); have n12_ := Aside0.mk (blk_below (g := gb235) (o := .cells #[.slice Ao120 t227.length co120, .slice Ao126 t230.length co126, .int .i64 t233] 25 (0, 0)) (qdp4_5 BK235) hb); have n13_ := Aside0.mk (below_step (qdp4_26 HB GE168 GE185 GE193 GE202 GE235) hb); clear HO_186000; clear HO_186001; clear HO_194000; clear HO_194001; clear HO_203000; clear HO_203001; clear HO_236000; clear HO_236001; clear BK168; clear BK185; clear BK193; clear BK202; clear BK235; clear HB; have HO_186000 := n0_; have HO_186001 := n1_; have HO_194000 := n2_; have HO_194001 := n3_; have HO_203000 := n4_; have HO_203001 := n5_; have HO_236000 := n6_; have HO_236001 := n7_; have BK168 := n8_; have BK185 := n9_; have BK193 := n10_; have BK202 := n11_; have BK235 := n12_; have HB := n13_; clear n0_ n1_ n2_ n3_ n4_ n5_ n6_ n7_ n8_ n9_ n10_ n11_ n12_ n13_; (try clear hb); (try clear hb2); (try clear hk); (try clear hi)))
                go_ret
                exact ⟨by first | rfl | (simp [errW_none, errW_some] <;> rfl) | (simp [*, errW_none, errW_some] <;> rfl), by repeat (first | (with_reducible first | exact HB.out | apply below_alloc | apply pw_below_drewN | apply below_drew1 | refine below_set ?_ GE168.out | refine below_set ?_ GE185.out | refine below_set ?_ GE193.out | refine below_set ?_ GE202.out | refine below_set ?_ GE235.out) | exact HB.out)⟩
               ·rw [if_neg c152] at H
                exact absurd H (by simp)
          ·rw [if_neg c101] at H
           exact absurd H (by simp)
     ·replace c65 := Bool.eq_false_iff.mpr c65
      subst c65
      have H1 : (none) = some r := by rw [if_neg (show ¬ (false = true) by decide)] at H; exact H
      clear H
      have H := H1
      clear H1
      exact absurd H (by simp)

end Go.Proofs.Ytohilfkdfcihgaa.PDi
