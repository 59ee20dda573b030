/- Go functions as Lean functions, and that each Go function comes to just that; printed by a program of this session (gprint.py over the kit's print.py). No condition. -/
import Derived.Test.YtohilfkdfcihgaaPDix0
import Derived.Test.YtohilfkdfcihgaaPDcx1
import Derived.Test.YtohilfkdfcihgaaGCut
import Derived.Test.YtohilfkdfcihgaaPDix1
import Derived.Test.YtohilfkdfcihgaaPDix2
namespace Go.Proofs.Ytohilfkdfcihgaa.PDi
open Go.RowKit Go.Proofs.YtohilfkdfcihgaaW.PrintWords Go.Proofs.YtohilfkdfcihgaaW.PrintLast Go.Proofs.YtohilfkdfcihgaaW.PrintMore
attribute [local go_sem] max2_int min2_int max_two min_two max_three min_three max_four min_four   -- for this text's walks alone
set_option linter.unusedVariables false
set_option linter.unusedSimpArgs false

theorem qdc2_1 {P Q0 Q1 : Prop} (y0 : Q0) (y1 : Q1) (h : Q0 → Q1 → P := by intro y0_ y1_; (with_reducible repeat (first | apply Kd.R_alloc | apply Kd.R_drewN | apply Kd.R_drew)); exact (Kd.R_mono (Kd.R_far (p := ⟨gb215, 2, none⟩) (Kd.R_far (p := ⟨gb215, 1, none⟩) (Kd.R_far (p := ⟨gb215, 0, none⟩) (Kd.R_types y0_.out y1_.out (by decide)) (fun _ hk => hk.2) (.slice Ao119 t207.length co119)) (fun _ hk => hk.2) (.slice Ao125 t210.length co125)) (fun _ hk => hk.2) (.int .i64 t213)) (fun _ h_ => h_.1))) : P := h y0 y1
theorem qdc2_2 {P Q0 : Prop} (y0 : Q0) (h : Q0 → P := by intro y0_; (with_reducible repeat (first | apply Kd.R_alloc | apply Kd.R_drewN | apply Kd.R_drew)); exact y0_.out) : P := h y0
theorem qdc2_3 {P Q0 Q1 : Prop} (y0 : Q0) (y1 : Q1) (h : Q0 → Q1 → P := by intro y0_ y1_; (with_reducible repeat (first | apply Kd.R_alloc | apply Kd.R_drewN | apply Kd.R_drew)); exact (Kd.R_mono (Kd.R_far (p := ⟨gb182, 2, none⟩) (Kd.R_far (p := ⟨gb182, 1, none⟩) (Kd.R_far (p := ⟨gb182, 0, none⟩) (Kd.R_types y0_.out y1_.out (by decide)) (fun _ hk => hk.2) (.slice Ao37 t174.length co37)) (fun _ hk => hk.2) (.slice Ao42 t177.length co42)) (fun _ hk => hk.2) (.int .i64 t180)) (fun _ h_ => h_.1))) : P := h y0 y1
theorem qdc2_4 {P Q0 Q1 : Prop} (y0 : Q0) (y1 : Q1) (h : Q0 → Q1 → P := by intro y0_ y1_; (with_reducible repeat (first | refine blk_drewN ?_ _ | refine blk_drew ?_ | refine blk_alloc ?_ _)); refine blk_far ?_ y0_.out _; (with_reducible repeat (first | refine blk_drewN ?_ _ | refine blk_drew ?_ | refine blk_alloc ?_ _)); refine blk_far ?_ y0_.out _; (with_reducible repeat (first | refine blk_drewN ?_ _ | refine blk_drew ?_ | refine blk_alloc ?_ _)); refine blk_far ?_ y0_.out _; (with_reducible repeat (first | refine blk_drewN ?_ _ | refine blk_drew ?_ | refine blk_alloc ?_ _)); exact y1_.out) : P := h y0 y1
theorem qdc2_5 {P Q0 : Prop} (y0 : Q0) (h : Q0 → P := by intro y0_; (with_reducible repeat (first | refine blk_drewN ?_ _ | refine blk_drew ?_ | refine blk_alloc ?_ _)); exact y0_.out) : P := h y0
theorem qdc2_6 {P Q0 Q1 : Prop} (y0 : Q0) (y1 : Q1) (h : Q0 → Q1 → P := by intro y0_ y1_; (with_reducible repeat (first | apply Kd.R_alloc | apply Kd.R_drewN | apply Kd.R_drew)); exact (Kd.R_mono (Kd.R_far (p := ⟨gb173, 2, none⟩) (Kd.R_far (p := ⟨gb173, 1, none⟩) (Kd.R_far (p := ⟨gb173, 0, none⟩) (Kd.R_types y0_.out y1_.out (by decide)) (fun _ hk => hk.2) (.slice Ao30 t166.length co30)) (fun _ hk => hk.2) (.slice Ao34 t169.length co34)) (fun _ hk => hk.2) (.int .i64 t172)) (fun _ h_ => h_.1))) : P := h y0 y1
theorem qdc2_7 {P Q0 Q1 Q2 Q3 Q4 : Prop} (y0 : Q0) (y1 : Q1) (y2 : Q2) (y3 : Q3) (y4 : Q4) (h : Q0 → Q1 → Q2 → Q3 → Q4 → P := by intro y0_ y1_ y2_ y3_ y4_; repeat (first | (with_reducible first | exact y0_.out | apply below_alloc | apply pw_below_drewN | apply below_drew1 | refine below_set ?_ y1_.out | refine below_set ?_ y2_.out | refine below_set ?_ y3_.out | refine below_set ?_ y4_.out) | exact y0_.out)) : P := h y0 y1 y2 y3 y4
theorem qdc2_8 {P Q0 : Prop} (y0 : Q0) (h : Q0 → P := by intro y0_; repeat (first | exact (Kd.R_reads' y0_.out).2.2 | (with_reducible refine Kd.C_alloc ?_ _) | (with_reducible refine Kd.C_drewN ?_ _) | (with_reducible refine Kd.C_drew ?_))) : P := h y0
theorem qdc2_9 {P Q0 Q1 : Prop} (y0 : Q0) (y1 : Q1) (h : Q0 → Q1 → P := by intro y0_ y1_; (with_reducible repeat (first | apply Kd.R_alloc | apply Kd.R_drewN | apply Kd.R_drew)); exact (Kd.R_mono (Kd.R_far (p := ⟨gb165, 2, none⟩) (Kd.R_far (p := ⟨gb165, 1, none⟩) (Kd.R_far (p := ⟨gb165, 0, none⟩) (Kd.R_types y0_.out y1_.out (by decide)) (fun _ hk => hk.2) (.slice Ao23 t157.length co23)) (fun _ hk => hk.2) (.slice Ao26 t160.length co26)) (fun _ hk => hk.2) (.int .i64 t163)) (fun _ h_ => h_.1))) : P := h y0 y1
theorem qdc2_10 {P : Prop} (h : P := by (try simp only [List.map_toArray, List.map_cons, List.map_nil]); first | done | rfl | (simp only [List.length_drop, List.length_take]; rfl)) : P := h
theorem qdc2_11 {P Q0 Q1 : Prop} (y0 : Q0) (y1 : Q1) (h : Q0 → Q1 → P := by intro y0_ y1_; repeat (first | (with_reducible first | exact y0_.out | apply below_alloc | apply pw_below_drewN | apply below_drew1 | refine below_set ?_ y1_.out) | exact y0_.out)) : P := h y0 y1
theorem qdc2_12 {P Q0 Q1 : Prop} (y0 : Q0) (y1 : Q1) (h : Q0 → Q1 → P := by intro y0_ y1_; repeat (first | exact (Kd.C_below y0_.out y1_.out) | (with_reducible refine Kd.C_alloc ?_ _) | (with_reducible refine Kd.C_drewN ?_ _) | (with_reducible refine Kd.C_drew ?_))) : P := h y0 y1
theorem qdc2_13 {P Q0 Q1 Q2 : Prop} (y0 : Q0) (y1 : Q1) (y2 : Q2) (h : Q0 → Q1 → Q2 → P := by intro y0_ y1_ y2_; repeat (first | (with_reducible first | exact y0_.out | apply below_alloc | apply pw_below_drewN | apply below_drew1 | refine below_set ?_ y1_.out | refine below_set ?_ y2_.out) | exact y0_.out)) : P := h y0 y1 y2
theorem qdc2_14 {P Q0 Q1 Q2 Q3 : Prop} (y0 : Q0) (y1 : Q1) (y2 : Q2) (y3 : Q3) (h : Q0 → Q1 → Q2 → Q3 → P := by intro y0_ y1_ y2_ y3_; repeat (first | (with_reducible first | exact y0_.out | apply below_alloc | apply pw_below_drewN | apply below_drew1 | refine below_set ?_ y1_.out | refine below_set ?_ y2_.out | refine below_set ?_ y3_.out) | exact y0_.out)) : P := h y0 y1 y2 y3
theorem qdc2_15 {P Q0 : Prop} (y0 : Q0) (h : Q0 → P := by intro y0_; (with_reducible repeat (first | refine blk_drewN ?_ _ | refine blk_drew ?_ | refine blk_alloc ?_ _)); refine blk_put (cs := #[.slice Ao119 t207.length co119, .slice Ao125 t210.length co125, .int .i64 0]) ?_ 2 _ rfl; (with_reducible repeat (first | refine blk_drewN ?_ _ | refine blk_drew ?_ | refine blk_alloc ?_ _)); refine blk_put (cs := #[.slice Ao119 t207.length co119, .slice none 0 0, .int .i64 0]) ?_ 1 _ rfl; (with_reducible repeat (first | refine blk_drewN ?_ _ | refine blk_drew ?_ | refine blk_alloc ?_ _)); refine blk_put (cs := #[.slice none 0 0, .slice none 0 0, .int .i64 0]) ?_ 0 _ rfl; (with_reducible repeat (first | refine blk_drewN ?_ _ | refine blk_drew ?_ | refine blk_alloc ?_ _)); exact y0_.out) : P := h y0
theorem qdc2_16 {P Q0 : Prop} (y0 : Q0) (h : Q0 → P := by intro y0_; (with_reducible repeat (first | refine blk_drewN ?_ _ | refine blk_drew ?_ | refine blk_alloc ?_ _)); refine blk_put (cs := #[.slice Ao37 t174.length co37, .slice Ao42 t177.length co42, .int .i64 0]) ?_ 2 _ rfl; (with_reducible repeat (first | refine blk_drewN ?_ _ | refine blk_drew ?_ | refine blk_alloc ?_ _)); refine blk_put (cs := #[.slice Ao37 t174.length co37, .slice none 0 0, .int .i64 0]) ?_ 1 _ rfl; (with_reducible repeat (first | refine blk_drewN ?_ _ | refine blk_drew ?_ | refine blk_alloc ?_ _)); refine blk_put (cs := #[.slice none 0 0, .slice none 0 0, .int .i64 0]) ?_ 0 _ rfl; (with_reducible repeat (first | refine blk_drewN ?_ _ | refine blk_drew ?_ | refine blk_alloc ?_ _)); exact y0_.out) : P := h y0
theorem qdc2_17 {P Q0 : Prop} (y0 : Q0) (h : Q0 → P := by intro y0_; repeat (first | (with_reducible first | exact y0_.out | apply below_alloc | apply pw_below_drewN | apply below_drew1) | exact y0_.out)) : P := h y0
theorem qdc2_18 {P : Prop} (h : P := by refine (Kd.R_reads' (e := 62) (base := w.heap.size) (ok := fun k_ => ((((True ∧ some k_ ≠ (.slice Ao26 t160.length co26 : Value).ownBlock) ∧ some k_ ≠ (.slice Ao34 t194.length co34 : Value).ownBlock) ∧ some k_ ≠ (.slice Ao42 t177.length co42 : Value).ownBlock) ∧ some k_ ≠ (.slice Ao116 t203.length co116 : Value).ownBlock)) (n := t210.length) (c := co125) ?_).2.2; exact (qdc2_1 HO212 BK215)) : P := h
theorem qdc2_19 {P : Prop} (h : P := by refine (Kd.R_reads' (e := 2) (base := w.heap.size) (ok := fun k_ => ((((True ∧ some k_ ≠ (.slice Ao23 t157.length co23 : Value).ownBlock) ∧ some k_ ≠ (.slice Ao30 t193.length co30 : Value).ownBlock) ∧ some k_ ≠ (.slice Ao37 t174.length co37 : Value).ownBlock) ∧ some k_ ≠ (.slice Ao115 t200.length co115 : Value).ownBlock)) (n := t207.length) (c := co119) ?_).2.2; exact (qdc2_1 HO209 BK215)) : P := h
theorem qdc2_20 {P : Prop} (h : P := by refine (Kd.R_reads' (e := 62) (base := w.heap.size) (ok := fun k_ => (((some k_ ≠ (.slice Ao34 t194.length co34 : Value).ownBlock ∧ some k_ ≠ (.slice Ao42 t177.length co42 : Value).ownBlock) ∧ some k_ ≠ (.slice Ao116 t203.length co116 : Value).ownBlock) ∧ some k_ ≠ (.slice Ao125 t210.length co125 : Value).ownBlock)) (n := t160.length) (c := co26) ?_).2.2; exact (qdc2_1 HO_166001 BK215)) : P := h
theorem qdc2_21 {P : Prop} (h : P := by refine (Kd.R_reads' (e := 2) (base := w.heap.size) (ok := fun k_ => (((some k_ ≠ (.slice Ao30 t193.length co30 : Value).ownBlock ∧ some k_ ≠ (.slice Ao37 t174.length co37 : Value).ownBlock) ∧ some k_ ≠ (.slice Ao115 t200.length co115 : Value).ownBlock) ∧ some k_ ≠ (.slice Ao119 t207.length co119 : Value).ownBlock)) (n := t157.length) (c := co23) ?_).2.2; exact (qdc2_1 HO_166000 BK215)) : P := h
theorem qdc2_22 {P : Prop} (h : P := by refine (Kd.R_reads' (e := 62) (base := w.heap.size) (ok := fun k_ => (((True ∧ some k_ ≠ (.slice Ao20 t153.length co20 : Value).ownBlock) ∧ some k_ ≠ (.slice Ao26 t160.length co26 : Value).ownBlock) ∧ some k_ ≠ (.slice Ao34 t169.length co34 : Value).ownBlock)) (n := t177.length) (c := co42) ?_).2.2; exact (qdc2_3 HO179 BK182)) : P := h
theorem qdc2_23 {P : Prop} (h : P := by refine (Kd.R_reads' (e := 62) (base := w.heap.size) (ok := fun k_ => (((True ∧ some k_ ≠ (.slice Ao20 t153.length co20 : Value).ownBlock) ∧ some k_ ≠ (.slice Ao34 t169.length co34 : Value).ownBlock) ∧ some k_ ≠ (.slice Ao42 t177.length co42 : Value).ownBlock)) (n := t160.length) (c := co26) ?_).2.2; exact (qdc2_3 HO162 BK182)) : P := h
theorem qdc2_24 {P : Prop} (h : P := by refine (Kd.R_reads' (e := 2) (base := w.heap.size) (ok := fun k_ => (((True ∧ some k_ ≠ (.slice Ao19 t150.length co19 : Value).ownBlock) ∧ some k_ ≠ (.slice Ao23 t157.length co23 : Value).ownBlock) ∧ some k_ ≠ (.slice Ao30 t166.length co30 : Value).ownBlock)) (n := t174.length) (c := co37) ?_).2.2; exact (qdc2_3 HO176 BK182)) : P := h
theorem qdc2_25 {P : Prop} (h : P := by refine (Kd.R_reads' (e := 2) (base := w.heap.size) (ok := fun k_ => (((True ∧ some k_ ≠ (.slice Ao19 t150.length co19 : Value).ownBlock) ∧ some k_ ≠ (.slice Ao30 t166.length co30 : Value).ownBlock) ∧ some k_ ≠ (.slice Ao37 t174.length co37 : Value).ownBlock)) (n := t157.length) (c := co23) ?_).2.2; exact (qdc2_3 HO159 BK182)) : P := h
theorem qdc2_26 {P Q0 Q1 Q2 Q3 Q4 Q5 : Prop} (y0 : Q0) (y1 : Q1) (y2 : Q2) (y3 : Q3) (y4 : Q4) (y5 : Q5) (h : Q0 → Q1 → Q2 → Q3 → Q4 → Q5 → P := by intro y0_ y1_ y2_ y3_ y4_ y5_; repeat (first | (with_reducible first | exact y0_.out | apply below_alloc | apply pw_below_drewN | apply below_drew1 | refine below_set ?_ y1_.out | refine below_set ?_ y2_.out | refine below_set ?_ y3_.out | refine below_set ?_ y4_.out | refine below_set ?_ y5_.out) | exact y0_.out)) : P := h y0 y1 y2 y3 y4 y5
theorem qdc2_27 {P : Prop} (h : P := by first | rfl | (simp; done) | (simp [*]; done)) : P := h
theorem qdc2_28 {P : Prop} (h : P := by kernel_rfl) : P := h
/-! ### laws_FnExactDictCut: function 8 -/
mutual
def laws_FnExactDictCut.j0 : Nat → Int → Int → Bool → Bool → Bool → List Int → List (S99) → Int → List Int → List (S62) → Int → List Int → List (S62) → Int → List Int → List (S62) → Int → Option (Bool)
 | 0, _, _, _, _, _, _, _, _, _, _, _, _, _, _, _, _, _ => none
 | k + 1, x1, x2, x9, x12, x48, x149000, x149001, x149002, x166000, x166001, x166002, x174000, x174001, x174002, x183000, x183001, x183002 => if x48 = true then (none) else ((laws_toDict.f k x149000 x149001 x149002).bind fun bt184 => ((laws_eqDict.f k x174000 x174001 x174002 bt184.1 bt184.2.1 bt184.2.2).bind fun t191 => (if t191 = true then ((laws_markDict.f k x174000 x174001 x174002 1).bind fun bt192 => (if bt192.1 < 0 then (laws_FnExactDictCut.j1 k x1 x2 x9 true x149000 x149001 x149002 x166000 x166001 x166002 x183000 x183001 x183002) else ((laws_eqDict.f k x183000 x183001 x183002 x166000 x166001 x166002).bind fun t195 => (if t195 = true then (laws_FnExactDictCut.j1 k x1 x2 x9 (x12 != x9) x149000 x149001 x149002 x166000 x166001 x166002 x183000 x183001 x183002) else (laws_FnExactDictCut.j1 k x1 x2 x9 true x149000 x149001 x149002 x166000 x166001 x166002 x183000 x183001 x183002))))) else (none))))
def laws_FnExactDictCut.j1 : Nat → Int → Int → Bool → Bool → List Int → List (S99) → Int → List Int → List (S62) → Int → List Int → List (S62) → Int → Option (Bool)
 | 0, _, _, _, _, _, _, _, _, _, _, _, _, _ => none
 | k + 1, x1, x2, x9, x69, x149000, x149001, x149002, x166000, x166001, x166002, x183000, x183001, x183002 => if x69 = true then (none) else ((laws_markDict.f k x183000 x183001 x183002 1).bind fun bt196 => ((laws_heldDict.f k bt196.2.1 bt196.2.2 x183002 1).bind fun t199 => (if t199 < 0 then (none) else (if t199 = bt196.1 then ((laws_toDict.f k x149000 x149001 x149002).bind fun bt200 => ((impl_DictCut.f bt200.1 bt200.2.1 bt200.2.2 x1 x2).bind fun bt207 => ((laws_eqDict.f k bt207.1 bt207.2.1 bt207.2.2.1 x166000 x166001 x166002).bind fun t216 => (if t216 = true then (laws_FnExactDictCut.j2 k bt196.1 (bt207.2.2.2 != x9) bt196.2.1 bt196.2.2 x183002) else (laws_FnExactDictCut.j2 k bt196.1 true bt196.2.1 bt196.2.2 x183002))))) else (none)))))
def laws_FnExactDictCut.j2 : Nat → Int → Bool → List Int → List (S62) → Int → Option (Bool)
 | 0, _, _, _, _, _ => none
 | k + 1, x14, x97, x183000, x183001, x183002 => if x97 = true then (none) else ((laws_heldDict.f k x183000 x183001 x183002 1).bind fun t217 => (if t217 < 0 then (none) else (if t217 = x14 then (some true) else (none))))
end
def laws_FnExactDictCut.f (k : Nat) (l0_0 : List Int) (l0_1 : List (S99)) (a0_2 : Int) (a1 : Int) (a2 : Int) : Option (Bool) := (laws_szDict.f l0_0 l0_1 a0_2 1048576).bind fun t149 => (if t149 < 0 then (some true) else ((laws_toDict.f k l0_0 l0_1 a0_2).bind fun bt150 => ((spec_DictCut.f k bt150.1 bt150.2.1 bt150.2.2 a1 a2).bind fun bt157 => ((laws_toDict.f k l0_0 l0_1 a0_2).bind fun bt166 => ((impl_DictCut.f bt166.1 bt166.2.1 bt166.2.2 a1 a2).bind fun bt174 => ((laws_eqDict.f k bt174.1 bt174.2.1 bt174.2.2.1 bt157.1 bt157.2.1 bt157.2.2.1).bind fun t183 => (if t183 = true then (laws_FnExactDictCut.j0 k a1 a2 bt157.2.2.2 bt174.2.2.2 (bt174.2.2.2 != bt157.2.2.2) l0_0 l0_1 a0_2 bt157.1 bt157.2.1 bt157.2.2.1 bt166.1 bt166.2.1 bt166.2.2 bt174.1 bt174.2.1 bt174.2.2.1) else (laws_FnExactDictCut.j0 k a1 a2 bt157.2.2.2 bt174.2.2.2 true l0_0 l0_1 a0_2 bt157.1 bt157.2.1 bt157.2.2.1 bt166.1 bt166.2.1 bt166.2.2 bt174.1 bt174.2.1 bt174.2.2.1))))))))
theorem laws_FnExactDictCut.mono_l : ∀ k, (∀ y0 y1 y2 y3 y4 y5 y6 y7 y8 y9 y10 y11 y12 y13 y14 y15 y16, LeO (laws_FnExactDictCut.j0 k y0 y1 y2 y3 y4 y5 y6 y7 y8 y9 y10 y11 y12 y13 y14 y15 y16) (laws_FnExactDictCut.j0 (k + 1) y0 y1 y2 y3 y4 y5 y6 y7 y8 y9 y10 y11 y12 y13 y14 y15 y16)) ∧ (∀ y0 y1 y2 y3 y4 y5 y6 y7 y8 y9 y10 y11 y12, LeO (laws_FnExactDictCut.j1 k y0 y1 y2 y3 y4 y5 y6 y7 y8 y9 y10 y11 y12) (laws_FnExactDictCut.j1 (k + 1) y0 y1 y2 y3 y4 y5 y6 y7 y8 y9 y10 y11 y12)) ∧ (∀ y0 y1 y2 y3 y4, LeO (laws_FnExactDictCut.j2 k y0 y1 y2 y3 y4) (laws_FnExactDictCut.j2 (k + 1) y0 y1 y2 y3 y4))
 | 0 => ⟨fun _ _ _ _ _ _ _ _ _ _ _ _ _ _ _ _ _ r h => by simp [laws_FnExactDictCut.j0] at h, fun _ _ _ _ _ _ _ _ _ _ _ _ _ r h => by simp [laws_FnExactDictCut.j1] at h, fun _ _ _ _ _ r h => by simp [laws_FnExactDictCut.j2] at h⟩
 | k + 1 => by
  obtain ⟨ih0, ih1, ih2⟩ := laws_FnExactDictCut.mono_l k
  refine ⟨?_, ?_, ?_⟩
  ·intro y0 y1 y2 y3 y4 y5 y6 y7 y8 y9 y10 y11 y12 y13 y14 y15 y16
   unfold laws_FnExactDictCut.j0
   repeat' first
   | (with_reducible exact ih0 _ _ _ _ _ _ _ _ _ _ _ _ _ _ _ _ _)
   | (with_reducible exact ih1 _ _ _ _ _ _ _ _ _ _ _ _ _)
   | (with_reducible exact ih2 _ _ _ _ _)
   | (with_reducible exact laws_eqDict.mono _ _ _ _ _ _ _)
   | (with_reducible exact laws_heldDict.mono _ _ _ _ _)
   | (with_reducible exact laws_markDict.mono _ _ _ _ _)
   | (with_reducible exact laws_toDict.mono _ _ _ _)
   | (with_reducible exact spec_DictCut.mono _ _ _ _ _ _)
   | (with_reducible exact LeO.refl _)
   | (with_reducible exact LeO.none _)
   | (with_reducible refine LeO.ite ?_ ?_)
   | (with_reducible refine LeO.bind ?_ (fun _ => ?_))
   | exact ih0 _ _ _ _ _ _ _ _ _ _ _ _ _ _ _ _ _
   | exact ih1 _ _ _ _ _ _ _ _ _ _ _ _ _
   | exact ih2 _ _ _ _ _
   | exact laws_eqDict.mono _ _ _ _ _ _ _
   | exact laws_heldDict.mono _ _ _ _ _
   | exact laws_markDict.mono _ _ _ _ _
   | exact laws_toDict.mono _ _ _ _
   | exact spec_DictCut.mono _ _ _ _ _ _
   | exact LeO.none _
   | refine LeO.ite ?_ ?_
   | refine LeO.bind ?_ (fun _ => ?_)
  ·intro y0 y1 y2 y3 y4 y5 y6 y7 y8 y9 y10 y11 y12
   unfold laws_FnExactDictCut.j1
   repeat' first
   | (with_reducible exact ih0 _ _ _ _ _ _ _ _ _ _ _ _ _ _ _ _ _)
   | (with_reducible exact ih1 _ _ _ _ _ _ _ _ _ _ _ _ _)
   | (with_reducible exact ih2 _ _ _ _ _)
   | (with_reducible exact laws_eqDict.mono _ _ _ _ _ _ _)
   | (with_reducible exact laws_heldDict.mono _ _ _ _ _)
   | (with_reducible exact laws_markDict.mono _ _ _ _ _)
   | (with_reducible exact laws_toDict.mono _ _ _ _)
   | (with_reducible exact spec_DictCut.mono _ _ _ _ _ _)
   | (with_reducible exact LeO.refl _)
   | (with_reducible exact LeO.none _)
   | (with_reducible refine LeO.ite ?_ ?_)
   | (with_reducible refine LeO.bind ?_ (fun _ => ?_))
   | exact ih0 _ _ _ _ _ _ _ _ _ _ _ _ _ _ _ _ _
   | exact ih1 _ _ _ _ _ _ _ _ _ _ _ _ _
   | exact ih2 _ _ _ _ _
   | exact laws_eqDict.mono _ _ _ _ _ _ _
   | exact laws_heldDict.mono _ _ _ _ _
   | exact laws_markDict.mono _ _ _ _ _
   | exact laws_toDict.mono _ _ _ _
   | exact spec_DictCut.mono _ _ _ _ _ _
   | exact LeO.none _
   | refine LeO.ite ?_ ?_
   | refine LeO.bind ?_ (fun _ => ?_)
  ·intro y0 y1 y2 y3 y4
   unfold laws_FnExactDictCut.j2
   repeat' first
   | (with_reducible exact ih0 _ _ _ _ _ _ _ _ _ _ _ _ _ _ _ _ _)
   | (with_reducible exact ih1 _ _ _ _ _ _ _ _ _ _ _ _ _)
   | (with_reducible exact ih2 _ _ _ _ _)
   | (with_reducible exact laws_eqDict.mono _ _ _ _ _ _ _)
   | (with_reducible exact laws_heldDict.mono _ _ _ _ _)
   | (with_reducible exact laws_markDict.mono _ _ _ _ _)
   | (with_reducible exact laws_toDict.mono _ _ _ _)
   | (with_reducible exact spec_DictCut.mono _ _ _ _ _ _)
   | (with_reducible exact LeO.refl _)
   | (with_reducible exact LeO.none _)
   | (with_reducible refine LeO.ite ?_ ?_)
   | (with_reducible refine LeO.bind ?_ (fun _ => ?_))
   | exact ih0 _ _ _ _ _ _ _ _ _ _ _ _ _ _ _ _ _
   | exact ih1 _ _ _ _ _ _ _ _ _ _ _ _ _
   | exact ih2 _ _ _ _ _
   | exact laws_eqDict.mono _ _ _ _ _ _ _
   | exact laws_heldDict.mono _ _ _ _ _
   | exact laws_markDict.mono _ _ _ _ _
   | exact laws_toDict.mono _ _ _ _
   | exact spec_DictCut.mono _ _ _ _ _ _
   | exact LeO.none _
   | refine LeO.ite ?_ ?_
   | refine LeO.bind ?_ (fun _ => ?_)
theorem laws_FnExactDictCut.mono : ∀ a0 a1 a2 a3 a4 k, LeO (laws_FnExactDictCut.f k a0 a1 a2 a3 a4) (laws_FnExactDictCut.f (k + 1) a0 a1 a2 a3 a4) := by
 intro a0 a1 a2 a3 a4 k
 obtain ⟨ih0, ih1, ih2⟩ := laws_FnExactDictCut.mono_l k
 unfold laws_FnExactDictCut.f
 repeat' first
   | (with_reducible exact ih0 _ _ _ _ _ _ _ _ _ _ _ _ _ _ _ _ _)
   | (with_reducible exact ih1 _ _ _ _ _ _ _ _ _ _ _ _ _)
   | (with_reducible exact ih2 _ _ _ _ _)
   | (with_reducible exact laws_eqDict.mono _ _ _ _ _ _ _)
   | (with_reducible exact laws_heldDict.mono _ _ _ _ _)
   | (with_reducible exact laws_markDict.mono _ _ _ _ _)
   | (with_reducible exact laws_toDict.mono _ _ _ _)
   | (with_reducible exact spec_DictCut.mono _ _ _ _ _ _)
   | (with_reducible exact LeO.refl _)
   | (with_reducible exact LeO.none _)
   | (with_reducible refine LeO.ite ?_ ?_)
   | (with_reducible refine LeO.bind ?_ (fun _ => ?_))
   | exact ih0 _ _ _ _ _ _ _ _ _ _ _ _ _ _ _ _ _
   | exact ih1 _ _ _ _ _ _ _ _ _ _ _ _ _
   | exact ih2 _ _ _ _ _
   | exact laws_eqDict.mono _ _ _ _ _ _ _
   | exact laws_heldDict.mono _ _ _ _ _
   | exact laws_markDict.mono _ _ _ _ _
   | exact laws_toDict.mono _ _ _ _
   | exact spec_DictCut.mono _ _ _ _ _ _
   | exact LeO.none _
   | refine LeO.ite ?_ ?_
   | refine LeO.bind ?_ (fun _ => ?_)
set_option maxHeartbeats 8000000 in
set_option maxRecDepth 100000 in
theorem laws_FnExactDictCut.calls (k : Nat) (A0_0 : Option Addr) (c0_0 : Nat) (l0_0 : List Int) (A0_1 : Option Addr) (c0_1 : Nat) (l0_1 : List (S99)) (a0_2 : Int) (a1 : Int) (a2 : Int) (r : Bool) (w : World) (hr0_0 : Kd.C (Kd.int .i64) w A0_0 l0_0.length l0_0) (hc0_0 : l0_0.length ≤ c0_0) (hr0_1 : Kd.C k99 w A0_1 l0_1.length l0_1) (hc0_1 : l0_1.length ≤ c0_1) (h : laws_FnExactDictCut.f k l0_0 l0_1 a0_2 a1 a2 = some r) :
  Calls Try.prog 8 #[.agg #[.slice A0_0 l0_0.length c0_0, .slice A0_1 l0_1.length c0_1, .int .i64 a0_2], .int .u64 a1, .int .i64 a2] w fun e w' => e = .returned (.bool r) ∧ Below w.heap.size w w' := by
 have hu40 := Try.underlying40
 have hu25 := Try.underlying25
 have HR0_0 := Aside0.mk hr0_0
 have HC0_0 := Aside0.mk hc0_0
 clear hr0_0 hc0_0
 have HR0_1 := Aside0.mk hr0_1
 have HC0_1 := Aside0.mk hc0_1
 clear hr0_1 hc0_1
 have HB := Aside0.mk (Below.refl w.heap.size w)
 have H : ((laws_szDict.f l0_0 l0_1 a0_2 1048576).bind fun t149 => (if t149 < 0 then (some true) else ((laws_toDict.f k l0_0 l0_1 a0_2).bind fun bt150 => ((spec_DictCut.f k bt150.1 bt150.2.1 bt150.2.2 a1 a2).bind fun bt157 => ((laws_toDict.f k l0_0 l0_1 a0_2).bind fun bt166 => ((impl_DictCut.f bt166.1 bt166.2.1 bt166.2.2 a1 a2).bind fun bt174 => ((laws_eqDict.f k bt174.1 bt174.2.1 bt174.2.2.1 bt157.1 bt157.2.1 bt157.2.2.1).bind fun t183 => (if t183 = true then (laws_FnExactDictCut.j0 k a1 a2 bt157.2.2.2 bt174.2.2.2 (bt174.2.2.2 != bt157.2.2.2) l0_0 l0_1 a0_2 bt157.1 bt157.2.1 bt157.2.2.1 bt166.1 bt166.2.1 bt166.2.2 bt174.1 bt174.2.1 bt174.2.2.1) else (laws_FnExactDictCut.j0 k a1 a2 bt157.2.2.2 bt174.2.2.2 true l0_0 l0_1 a0_2 bt157.1 bt157.2.1 bt157.2.2.1 bt166.1 bt166.2.1 bt166.2.2 bt174.1 bt174.2.1 bt174.2.2.1))))))))) = some r := h
 clear h
 replace H := Option.bind_eq_some_iff.mp H
 obtain ⟨t149, A40, H⟩ := H
 replace H : (if t149 < 0 then (some true) else ((laws_toDict.f k l0_0 l0_1 a0_2).bind fun bt150 => ((spec_DictCut.f k bt150.1 bt150.2.1 bt150.2.2 a1 a2).bind fun bt157 => ((laws_toDict.f k l0_0 l0_1 a0_2).bind fun bt166 => ((impl_DictCut.f bt166.1 bt166.2.1 bt166.2.2 a1 a2).bind fun bt174 => ((laws_eqDict.f k bt174.1 bt174.2.1 bt174.2.2.1 bt157.1 bt157.2.1 bt157.2.2.1).bind fun t183 => (if t183 = true then (laws_FnExactDictCut.j0 k a1 a2 bt157.2.2.2 bt174.2.2.2 (bt174.2.2.2 != bt157.2.2.2) l0_0 l0_1 a0_2 bt157.1 bt157.2.1 bt157.2.2.1 bt166.1 bt166.2.1 bt166.2.2 bt174.1 bt174.2.1 bt174.2.2.1) else (laws_FnExactDictCut.j0 k a1 a2 bt157.2.2.2 bt174.2.2.2 true l0_0 l0_1 a0_2 bt157.1 bt157.2.1 bt157.2.2.1 bt166.1 bt166.2.1 bt166.2.2 bt174.1 bt174.2.1 bt174.2.2.1)))))))) = some r := H
 have A4 := Aside0.mk A40
 clear A40
 by_cases c5 : t149 < 0
 ·rw [if_pos c5] at H
  have c5b0 : decide (t149 < 0) = true := decide_eq_true c5
  clear c5
  obtain rfl := Option.some.inj H
  go_enter Try.func8, Try.ntmps8
  go_wp2_with (first | ((with_reducible refine gate_dst (N := 3) rfl ?_); refine box_event ?hg (N := 3) ?hd (cs := #[.slice A0_0 l0_0.length c0_0, .slice A0_1 l0_1.length c0_1, .int .i64 a0_2]) (t := 40) ?hr ?_; (case hd => rfl); (case hg => rfl); (case hr => exact (by first | (go_simp; done) | (go_simp; rfl))); intro gb148 hg w6 hbox hb; have n0_ := Aside0.mk (below_step (qdc2_17 HB) hb); have n1_ := Aside0.mk (hbox); have n2_ := Aside0.mk ((by rw [hg]; exact (below_size (qdc2_17 HB)) : w.heap.size ≤ gb148)); have n3_ := Aside0.mk ((by rw [hg]; exact (below_size (qdc2_17 HB)) : w.heap.size ≤ gb148)); clear HB; have HB := n0_; have BK148 := n1_; have GW148 := n2_; have GE148 := n3_; clear n0_ n1_ n2_ n3_; clear hb hbox hg; have hcz7_0 : w6.cell? ⟨gb148, 0, none⟩ = some (.slice A0_0 l0_0.length c0_0) := (blk_cell BK148.out 0).trans rfl; have hcz7_1 : w6.cell? ⟨gb148, 1, none⟩ = some (.slice A0_1 l0_1.length c0_1) := (blk_cell BK148.out 1).trans rfl; have hcz7_2 : w6.cell? ⟨gb148, 2, none⟩ = some (.int .i64 a0_2) := (blk_cell BK148.out 2).trans rfl; have hfz7_0 := blk_frozen BK148.out 0; have hfz7_1 := blk_frozen BK148.out 1; have hfz7_2 := blk_frozen BK148.out 2) | ((with_reducible refine gate_callee (f := 19) rfl ?_); refine goesL_ (some 20) rfl rfl Try.func19 qdc2_28 rfl #[.agg #[.slice A0_0 l0_0.length c0_0, .slice A0_1 l0_1.length c0_1, .int .i64 a0_2], .int .i64 1048576] rfl qdc2_10 ?_; (with_reducible refine (laws_szDict.calls _ _ l0_0 _ _ l0_1 a0_2 1048576 t149 _ ?side1 ?side2 ?side3 ?side4 A4.out).mono ?_); (case side1 => exact (qdc2_12 HR0_0 HB)); (case side2 => exact HC0_0.out); (case side3 => exact (qdc2_12 HR0_1 HB)); (case side4 => exact HC0_1.out); rintro e w8 ⟨rfl, hb⟩; refine ⟨_, rfl, ?_⟩; have n0_ := Aside0.mk (blk_below (g := gb148) (o := .cells #[.slice A0_0 l0_0.length c0_0, .slice A0_1 l0_1.length c0_1, .int .i64 a0_2] 40 (0, 0)) (qdc2_5 BK148) hb); have n1_ := Aside0.mk (below_step (qdc2_11 HB GE148) hb); clear BK148; clear HB; have BK148 := n0_; have HB := n1_; clear n0_ n1_; (try clear hb); (try clear hb2); (try clear hk); (try clear hi)))
  go_ret
  exact ⟨by first | rfl | (simp [errW_none, errW_some] <;> rfl) | (simp [*, errW_none, errW_some] <;> rfl), by repeat (first | (with_reducible first | exact HB.out | apply below_alloc | apply pw_below_drewN | apply below_drew1 | refine below_set ?_ GE148.out) | exact HB.out)⟩
 ·rw [if_neg c5] at H
  have c5b0 : decide (t149 < 0) = false := decide_eq_false c5
  clear c5
  replace H := Option.bind_eq_some_iff.mp H
  obtain ⟨⟨t150, t153, t156⟩, A90, H⟩ := H
  replace H : ((spec_DictCut.f k t150 t153 t156 a1 a2).bind fun bt157 => ((laws_toDict.f k l0_0 l0_1 a0_2).bind fun bt166 => ((impl_DictCut.f bt166.1 bt166.2.1 bt166.2.2 a1 a2).bind fun bt174 => ((laws_eqDict.f k bt174.1 bt174.2.1 bt174.2.2.1 bt157.1 bt157.2.1 bt157.2.2.1).bind fun t183 => (if t183 = true then (laws_FnExactDictCut.j0 k a1 a2 bt157.2.2.2 bt174.2.2.2 (bt174.2.2.2 != bt157.2.2.2) l0_0 l0_1 a0_2 bt157.1 bt157.2.1 bt157.2.2.1 bt166.1 bt166.2.1 bt166.2.2 bt174.1 bt174.2.1 bt174.2.2.1) else (laws_FnExactDictCut.j0 k a1 a2 bt157.2.2.2 bt174.2.2.2 true l0_0 l0_1 a0_2 bt157.1 bt157.2.1 bt157.2.2.1 bt166.1 bt166.2.1 bt166.2.2 bt174.1 bt174.2.1 bt174.2.2.1)))))) = some r := H
  have A9 := Aside0.mk A90
  clear A90
  replace H := Option.bind_eq_some_iff.mp H
  obtain ⟨⟨t157, t160, t163, t164⟩, A100, H⟩ := H
  replace H : ((laws_toDict.f k l0_0 l0_1 a0_2).bind fun bt166 => ((impl_DictCut.f bt166.1 bt166.2.1 bt166.2.2 a1 a2).bind fun bt174 => ((laws_eqDict.f k bt174.1 bt174.2.1 bt174.2.2.1 t157 t160 t163).bind fun t183 => (if t183 = true then (laws_FnExactDictCut.j0 k a1 a2 t164 bt174.2.2.2 (bt174.2.2.2 != t164) l0_0 l0_1 a0_2 t157 t160 t163 bt166.1 bt166.2.1 bt166.2.2 bt174.1 bt174.2.1 bt174.2.2.1) else (laws_FnExactDictCut.j0 k a1 a2 t164 bt174.2.2.2 true l0_0 l0_1 a0_2 t157 t160 t163 bt166.1 bt166.2.1 bt166.2.2 bt174.1 bt174.2.1 bt174.2.2.1))))) = some r := H
  have A10 := Aside0.mk A100
  clear A100
  replace H := Option.bind_eq_some_iff.mp H
  obtain ⟨⟨t166, t169, t172⟩, A110, H⟩ := H
  replace H : ((impl_DictCut.f t166 t169 t172 a1 a2).bind fun bt174 => ((laws_eqDict.f k bt174.1 bt174.2.1 bt174.2.2.1 t157 t160 t163).bind fun t183 => (if t183 = true then (laws_FnExactDictCut.j0 k a1 a2 t164 bt174.2.2.2 (bt174.2.2.2 != t164) l0_0 l0_1 a0_2 t157 t160 t163 t166 t169 t172 bt174.1 bt174.2.1 bt174.2.2.1) else (laws_FnExactDictCut.j0 k a1 a2 t164 bt174.2.2.2 true l0_0 l0_1 a0_2 t157 t160 t163 t166 t169 t172 bt174.1 bt174.2.1 bt174.2.2.1)))) = some r := H
  have A11 := Aside0.mk A110
  clear A110
  replace H := Option.bind_eq_some_iff.mp H
  obtain ⟨⟨t174, t177, t180, t181⟩, A120, H⟩ := H
  replace H : ((laws_eqDict.f k t174 t177 t180 t157 t160 t163).bind fun t183 => (if t183 = true then (laws_FnExactDictCut.j0 k a1 a2 t164 t181 (t181 != t164) l0_0 l0_1 a0_2 t157 t160 t163 t166 t169 t172 t174 t177 t180) else (laws_FnExactDictCut.j0 k a1 a2 t164 t181 true l0_0 l0_1 a0_2 t157 t160 t163 t166 t169 t172 t174 t177 t180))) = some r := H
  have A12 := Aside0.mk A120
  clear A120
  have HC13 := Aside0.mk H
  clear H
  go_enter Try.func8, Try.ntmps8
  go_upto_region 8 with (first | ((with_reducible refine gate_dst (N := 3) rfl ?_); refine box_event ?hg (N := 3) ?hd (cs := #[.slice A0_0 l0_0.length c0_0, .slice A0_1 l0_1.length c0_1, .int .i64 a0_2]) (t := 40) ?hr ?_; (case hd => rfl); (case hg => rfl); (case hr => exact (by first | (go_simp; done) | (go_simp; rfl))); intro gb148 hg w14 hbox hb; have n0_ := Aside0.mk (below_step (qdc2_17 HB) hb); have n1_ := Aside0.mk (hbox); have n2_ := Aside0.mk ((by rw [hg]; exact (below_size (qdc2_17 HB)) : w.heap.size ≤ gb148)); have n3_ := Aside0.mk ((by rw [hg]; exact (below_size (qdc2_17 HB)) : w.heap.size ≤ gb148)); clear HB; have HB := n0_; have BK148 := n1_; have GW148 := n2_; have GE148 := n3_; clear n0_ n1_ n2_ n3_; clear hb hbox hg; have hcz15_0 : w14.cell? ⟨gb148, 0, none⟩ = some (.slice A0_0 l0_0.length c0_0) := (blk_cell BK148.out 0).trans rfl; have hcz15_1 : w14.cell? ⟨gb148, 1, none⟩ = some (.slice A0_1 l0_1.length c0_1) := (blk_cell BK148.out 1).trans rfl; have hcz15_2 : w14.cell? ⟨gb148, 2, none⟩ = some (.int .i64 a0_2) := (blk_cell BK148.out 2).trans rfl; have hfz15_0 := blk_frozen BK148.out 0; have hfz15_1 := blk_frozen BK148.out 1; have hfz15_2 := blk_frozen BK148.out 2) | ((with_reducible refine gate_callee (f := 19) rfl ?_); refine goesL_ (some 20) rfl rfl Try.func19 qdc2_28 rfl #[.agg #[.slice A0_0 l0_0.length c0_0, .slice A0_1 l0_1.length c0_1, .int .i64 a0_2], .int .i64 1048576] rfl qdc2_10 ?_; (with_reducible refine (laws_szDict.calls _ _ l0_0 _ _ l0_1 a0_2 1048576 t149 _ ?side1 ?side2 ?side3 ?side4 A4.out).mono ?_); (case side1 => exact (qdc2_12 HR0_0 HB)); (case side2 => exact HC0_0.out); (case side3 => exact (qdc2_12 HR0_1 HB)); (case side4 => exact HC0_1.out); rintro e w16 ⟨rfl, hb⟩; refine ⟨_, rfl, ?_⟩; have n0_ := Aside0.mk (blk_below (g := gb148) (o := .cells #[.slice A0_0 l0_0.length c0_0, .slice A0_1 l0_1.length c0_1, .int .i64 a0_2] 40 (0, 0)) (qdc2_5 BK148) hb); have n1_ := Aside0.mk (below_step (qdc2_11 HB GE148) hb); clear BK148; clear HB; have BK148 := n0_; have HB := n1_; clear n0_ n1_; (try clear hb); (try clear hb2); (try clear hk); (try clear hi); have hcz17_0 : w16.cell? ⟨gb148, 0, none⟩ = some (.slice A0_0 l0_0.length c0_0) := (blk_cell BK148.out 0).trans rfl; have hcz17_1 : w16.cell? ⟨gb148, 1, none⟩ = some (.slice A0_1 l0_1.length c0_1) := (blk_cell BK148.out 1).trans rfl; have hcz17_2 : w16.cell? ⟨gb148, 2, none⟩ = some (.int .i64 a0_2) := (blk_cell BK148.out 2).trans rfl; have hfz17_0 := blk_frozen BK148.out 0; have hfz17_1 := blk_frozen BK148.out 1; have hfz17_2 := blk_frozen BK148.out 2) | ((with_reducible refine gate_callee (f := 21) rfl ?_); refine goesL_ (some 25) rfl rfl Try.func21 qdc2_28 rfl #[.agg #[.slice A0_0 l0_0.length c0_0, .slice A0_1 l0_1.length c0_1, .int .i64 a0_2]] rfl qdc2_10 ?_; (with_reducible refine (laws_toDict.calls k _ _ l0_0 _ _ l0_1 a0_2 t150 t153 t156 _ ?side1 ?side2 ?side3 ?side4 A9.out).mono ?_); (case side1 => exact (qdc2_12 HR0_0 HB)); (case side2 => exact HC0_0.out); (case side3 => exact (qdc2_12 HR0_1 HB)); (case side4 => exact HC0_1.out); rintro e w18 ⟨v151, v154, rfl, ho0, ho1, hb⟩; refine ⟨_, rfl, ?_⟩; have n0_ := Aside0.mk (Kd.R_lower ho0 (below_size (qdc2_11 HB GE148))); have n1_ := Aside0.mk (Kd.R_lower ho1 (below_size (qdc2_11 HB GE148))); have n2_ := Aside0.mk (blk_below (g := gb148) (o := .cells #[.slice A0_0 l0_0.length c0_0, .slice A0_1 l0_1.length c0_1, .int .i64 a0_2] 40 (0, 0)) (qdc2_5 BK148) hb); have n3_ := Aside0.mk (below_step (qdc2_11 HB GE148) hb); clear BK148; clear HB; have HO152 := n0_; have HO155 := n1_; have BK148 := n2_; have HB := n3_; clear n0_ n1_ n2_ n3_; (try clear hb); (try clear hb2); (try clear hk); (try clear hi); (try clear ho0); (try clear ho1); obtain ⟨Ao19, co19, eo19⟩ := Kd.R_slice HO152.out; subst eo19; obtain ⟨Ao20, co20, eo20⟩ := Kd.R_slice HO155.out; subst eo20) | ((with_reducible refine gate_callee (f := 33) rfl ?_); refine goesL_ (some 28) rfl rfl Try.func33 qdc2_28 rfl #[.agg #[.slice Ao19 t150.length co19, .slice Ao20 t153.length co20, .int .i64 t156], .int .u64 a1, .int .i64 a2] rfl qdc2_10 ?_; (with_reducible refine (spec_DictCut.calls k _ _ t150 _ _ t153 t156 a1 a2 t157 t160 t163 t164 _ ?side1 ?side2 ?side3 ?side4 A10.out).mono ?_); (case side1 => exact (qdc2_8 HO152)); (case side2 => exact (Kd.R_reads' HO152.out).2.1); (case side3 => exact (qdc2_8 HO155)); (case side4 => exact (Kd.R_reads' HO155.out).2.1); rintro e w21 ⟨v158, v161, rfl, ho0, ho1, hb⟩; refine ⟨_, rfl, ?_⟩; have n0_ := Aside0.mk (Kd.R_elder' (qdc2_2 HO152) (Kd.R_base ho0) hb); have n1_ := Aside0.mk (Kd.R_elder' (qdc2_2 HO155) (Kd.R_base ho1) hb); have n2_ := Aside0.mk (Kd.R_lower (Kd.R_new' ho0 (Kd.R_lt (qdc2_2 HO152))) (below_size (qdc2_11 HB GE148))); have n3_ := Aside0.mk (Kd.R_lower (Kd.R_new' ho1 (Kd.R_lt (qdc2_2 HO155))) (below_size (qdc2_11 HB GE148))); have n4_ := Aside0.mk (blk_below (g := gb148) (o := .cells #[.slice A0_0 l0_0.length c0_0, .slice A0_1 l0_1.length c0_1, .int .i64 a0_2] 40 (0, 0)) (qdc2_5 BK148) hb); have n5_ := Aside0.mk (below_step (qdc2_11 HB GE148) hb); clear HO152; clear HO155; clear BK148; clear HB; have HO152 := n0_; have HO155 := n1_; have HO159 := n2_; have HO162 := n3_; have BK148 := n4_; have HB := n5_; clear n0_ n1_ n2_ n3_ n4_ n5_; (try clear hb); (try clear hb2); (try clear hk); (try clear hi); (try clear ho0); (try clear ho1)) | ((with_reducible refine gate_dst (N := 8) rfl ?_); refine box_event ?hg (N := 8) ?hd (cs := #[.slice none 0 0, .slice none 0 0, .int .i64 0]) (t := 25) ?hr ?_; (case hd => rfl); (case hg => rfl); (case hr => exact (by first | (go_simp; done) | (go_simp; rfl))); intro gb165 hg w22 hbox hb; have n0_ := Aside0.mk (Kd.R_below (qdc2_2 HO152) hb); have n1_ := Aside0.mk (Kd.R_below (qdc2_2 HO155) hb); have n2_ := Aside0.mk (Kd.R_below (qdc2_2 HO159) hb); have n3_ := Aside0.mk (Kd.R_below (qdc2_2 HO162) hb); have n4_ := Aside0.mk (blk_below (g := gb148) (o := .cells #[.slice A0_0 l0_0.length c0_0, .slice A0_1 l0_1.length c0_1, .int .i64 a0_2] 40 (0, 0)) (qdc2_5 BK148) hb); have n5_ := Aside0.mk (below_step (qdc2_11 HB GE148) hb); have n6_ := Aside0.mk (hbox); have n7_ := Aside0.mk ((by rw [hg]; exact (below_size (qdc2_11 HB GE148)) : w.heap.size ≤ gb165)); have n8_ := Aside0.mk ((by rw [hg]; exact (below_size (qdc2_11 HB GE148)) : w.heap.size ≤ gb165)); have n9_ := Aside0.mk ((by rw [hg]; exact Nat.ne_of_lt (blk_lt (g := gb148) (o := .cells #[.slice A0_0 l0_0.length c0_0, .slice A0_1 l0_1.length c0_1, .int .i64 a0_2] 40 (0, 0)) (qdc2_5 BK148)) : gb148 ≠ gb165)); have n10_ := Aside0.mk ((by rw [hg]; exact Nat.ne_of_gt (blk_lt (g := gb148) (o := .cells #[.slice A0_0 l0_0.length c0_0, .slice A0_1 l0_1.length c0_1, .int .i64 a0_2] 40 (0, 0)) (qdc2_5 BK148)) : gb165 ≠ gb148)); clear HO152; clear HO155; clear HO159; clear HO162; clear BK148; clear HB; have HO152 := n0_; have HO155 := n1_; have HO159 := n2_; have HO162 := n3_; have BK148 := n4_; have HB := n5_; have BK165 := n6_; have GW165 := n7_; have GE165 := n8_; have NB148_165 := n9_; have NB165_148 := n10_; clear n0_ n1_ n2_ n3_ n4_ n5_ n6_ n7_ n8_ n9_ n10_; clear hb hbox hg; obtain ⟨Ao23, co23, eo23⟩ := Kd.R_slice HO159.out; subst eo23; have hnb24 := NB165_148.out; have hnc24 := NB148_165.out; have hcz25_0 : w22.cell? ⟨gb165, 0, none⟩ = some (.slice none 0 0) := (blk_cell BK165.out 0).trans rfl; have hcz25_1 : w22.cell? ⟨gb165, 1, none⟩ = some (.slice none 0 0) := (blk_cell BK165.out 1).trans rfl; have hcz25_2 : w22.cell? ⟨gb165, 2, none⟩ = some (.int .i64 0) := (blk_cell BK165.out 2).trans rfl; have hfz25_0 := blk_frozen BK165.out 0; have hfz25_1 := blk_frozen BK165.out 1; have hfz25_2 := blk_frozen BK165.out 2; obtain ⟨Ao26, co26, eo26⟩ := Kd.R_slice HO162.out; subst eo26; have hcz27_0 : w22.cell? ⟨gb148, 0, none⟩ = some (.slice A0_0 l0_0.length c0_0) := (blk_cell BK148.out 0).trans rfl; have hcz27_1 : w22.cell? ⟨gb148, 1, none⟩ = some (.slice A0_1 l0_1.length c0_1) := (blk_cell BK148.out 1).trans rfl; have hcz27_2 : w22.cell? ⟨gb148, 2, none⟩ = some (.int .i64 a0_2) := (blk_cell BK148.out 2).trans rfl; have hfz27_0 := blk_frozen BK148.out 0; have hfz27_1 := blk_frozen BK148.out 1; have hfz27_2 := blk_frozen BK148.out 2) | ((with_reducible refine gate_callee (f := 21) rfl ?_); refine goesL_ (some 32) rfl rfl Try.func21 qdc2_28 rfl #[.agg #[.slice A0_0 l0_0.length c0_0, .slice A0_1 l0_1.length c0_1, .int .i64 a0_2]] rfl qdc2_10 ?_; (with_reducible refine (laws_toDict.calls k _ _ l0_0 _ _ l0_1 a0_2 t166 t169 t172 _ ?side1 ?side2 ?side3 ?side4 A11.out).mono ?_); (case side1 => exact Kd.C_below HR0_0.out (qdc2_13 HB GE148 GE165)); (case side2 => exact HC0_0.out); (case side3 => exact Kd.C_below HR0_1.out (qdc2_13 HB GE148 GE165)); (case side4 => exact HC0_1.out); rintro e w28 ⟨v167, v170, rfl, ho0, ho1, hb⟩; refine ⟨_, rfl, ?_⟩; have n0_ := Aside0.mk (Kd.R_elder' (qdc2_9 HO152 BK165) (Kd.R_base ho0) hb); have n1_ := Aside0.mk (Kd.R_elder' (qdc2_9 HO155 BK165) (Kd.R_base ho1) hb); have n2_ := Aside0.mk (Kd.R_elder' (qdc2_9 HO159 BK165) (Kd.R_base ho0) hb); have n3_ := Aside0.mk (Kd.R_elder' (qdc2_9 HO162 BK165) (Kd.R_base ho1) hb); have n4_ := Aside0.mk (Kd.R_lower (Kd.R_new' (Kd.R_new' ho0 (Kd.R_lt (qdc2_9 HO152 BK165))) (Kd.R_lt (qdc2_9 HO159 BK165))) (below_size (qdc2_13 HB GE148 GE165))); have n5_ := Aside0.mk (Kd.R_lower (Kd.R_new' (Kd.R_new' ho1 (Kd.R_lt (qdc2_9 HO155 BK165))) (Kd.R_lt (qdc2_9 HO162 BK165))) (below_size (qdc2_13 HB GE148 GE165))); have n6_ := Aside0.mk (blk_below (g := gb148) (o := .cells #[.slice A0_0 l0_0.length c0_0, .slice A0_1 l0_1.length c0_1, .int .i64 a0_2] 40 (0, 0)) (qdc2_4 NB148_165 BK148) hb); have n7_ := Aside0.mk (blk_below (g := gb165) (o := .cells #[.slice Ao23 t157.length co23, .slice Ao26 t160.length co26, .int .i64 t163] 25 (0, 0)) (by (with_reducible repeat (first | refine blk_drewN ?_ _ | refine blk_drew ?_ | refine blk_alloc ?_ _)); refine blk_put (cs := #[.slice Ao23 t157.length co23, .slice Ao26 t160.length co26, .int .i64 0]) ?_ 2 _ rfl; (with_reducible repeat (first | refine blk_drewN ?_ _ | refine blk_drew ?_ | refine blk_alloc ?_ _)); refine blk_put (cs := #[.slice Ao23 t157.length co23, .slice none 0 0, .int .i64 0]) ?_ 1 _ rfl; (with_reducible repeat (first | refine blk_drewN ?_ _ | refine blk_drew ?_ | refine blk_alloc ?_ _)); refine blk_put (cs := #[.slice none 0 0, .slice none 0 0, .int .i64 0]) ?_ 0 _ rfl; (with_reducible repeat (first | refine blk_drewN ?_ _ | refine blk_drew ?_ | refine blk_alloc ?_ _)); exact BK165.out) hb); have n8_ := Aside0.mk (below_step (qdc2_13 HB GE148 GE165) hb); clear HO152; clear HO155; clear HO159; clear HO162; clear BK148; clear BK165; clear HB; have HO152 := n0_; have HO155 := n1_; have HO159 := n2_; have HO162 := n3_; have HO168 := n4_; have HO171 := n5_; have BK148 := n6_; have BK165 := n7_; have HB := n8_; clear n0_ n1_ n2_ n3_ n4_ n5_ n6_ n7_ n8_; (try clear hb); (try clear hb2); (try clear hk); (try clear hi); (try clear ho0); (try clear ho1)) | ((with_reducible refine gate_dst (N := 10) rfl ?_); refine box_event ?hg (N := 10) ?hd (cs := #[.slice none 0 0, .slice none 0 0, .int .i64 0]) (t := 25) ?hr ?_; (case hd => rfl); (case hg => rfl); (case hr => exact (by first | (go_simp; done) | (go_simp; rfl))); intro gb173 hg w29 hbox hb; have n0_ := Aside0.mk (Kd.R_below (qdc2_2 HO152) hb); have n1_ := Aside0.mk (Kd.R_below (qdc2_2 HO155) hb); have n2_ := Aside0.mk (Kd.R_below (qdc2_2 HO159) hb); have n3_ := Aside0.mk (Kd.R_below (qdc2_2 HO162) hb); have n4_ := Aside0.mk (Kd.R_below (qdc2_2 HO168) hb); have n5_ := Aside0.mk (Kd.R_below (qdc2_2 HO171) hb); have n6_ := Aside0.mk (blk_below (g := gb148) (o := .cells #[.slice A0_0 l0_0.length c0_0, .slice A0_1 l0_1.length c0_1, .int .i64 a0_2] 40 (0, 0)) (qdc2_5 BK148) hb); have n7_ := Aside0.mk (blk_below (g := gb165) (o := .cells #[.slice Ao23 t157.length co23, .slice Ao26 t160.length co26, .int .i64 t163] 25 (0, 0)) (qdc2_5 BK165) hb); have n8_ := Aside0.mk (below_step (qdc2_13 HB GE148 GE165) hb); have n9_ := Aside0.mk (hbox); have n10_ := Aside0.mk ((by rw [hg]; exact (below_size (qdc2_13 HB GE148 GE165)) : w.heap.size ≤ gb173)); have n11_ := Aside0.mk ((by rw [hg]; exact (below_size (qdc2_13 HB GE148 GE165)) : w.heap.size ≤ gb173)); have n12_ := Aside0.mk ((by rw [hg]; exact Nat.ne_of_lt (blk_lt (g := gb148) (o := .cells #[.slice A0_0 l0_0.length c0_0, .slice A0_1 l0_1.length c0_1, .int .i64 a0_2] 40 (0, 0)) (qdc2_5 BK148)) : gb148 ≠ gb173)); have n13_ := Aside0.mk ((by rw [hg]; exact Nat.ne_of_gt (blk_lt (g := gb148) (o := .cells #[.slice A0_0 l0_0.length c0_0, .slice A0_1 l0_1.length c0_1, .int .i64 a0_2] 40 (0, 0)) (qdc2_5 BK148)) : gb173 ≠ gb148)); have n14_ := Aside0.mk ((by rw [hg]; exact Nat.ne_of_lt (blk_lt (g := gb165) (o := .cells #[.slice Ao23 t157.length co23, .slice Ao26 t160.length co26, .int .i64 t163] 25 (0, 0)) (qdc2_5 BK165)) : gb165 ≠ gb173)); have n15_ := Aside0.mk ((by rw [hg]; exact Nat.ne_of_gt (blk_lt (g := gb165) (o := .cells #[.slice Ao23 t157.length co23, .slice Ao26 t160.length co26, .int .i64 t163] 25 (0, 0)) (qdc2_5 BK165)) : gb173 ≠ gb165)); clear HO152; clear HO155; clear HO159; clear HO162; clear HO168; clear HO171; clear BK148; clear BK165; clear HB; have HO152 := n0_; have HO155 := n1_; have HO159 := n2_; have HO162 := n3_; have HO168 := n4_; have HO171 := n5_; have BK148 := n6_; have BK165 := n7_; have HB := n8_; have BK173 := n9_; have GW173 := n10_; have GE173 := n11_; have NB148_173 := n12_; have NB173_148 := n13_; have NB165_173 := n14_; have NB173_165 := n15_; clear n0_ n1_ n2_ n3_ n4_ n5_ n6_ n7_ n8_ n9_ n10_ n11_ n12_ n13_ n14_ n15_; clear hb hbox hg; obtain ⟨Ao30, co30, eo30⟩ := Kd.R_slice HO168.out; subst eo30; have hnb31 := NB173_148.out; have hnc31 := NB148_173.out; have hnb32 := NB173_165.out; have hnc32 := NB165_173.out; have hcz33_0 : w29.cell? ⟨gb173, 0, none⟩ = some (.slice none 0 0) := (blk_cell BK173.out 0).trans rfl; have hcz33_1 : w29.cell? ⟨gb173, 1, none⟩ = some (.slice none 0 0) := (blk_cell BK173.out 1).trans rfl; have hcz33_2 : w29.cell? ⟨gb173, 2, none⟩ = some (.int .i64 0) := (blk_cell BK173.out 2).trans rfl; have hfz33_0 := blk_frozen BK173.out 0; have hfz33_1 := blk_frozen BK173.out 1; have hfz33_2 := blk_frozen BK173.out 2; obtain ⟨Ao34, co34, eo34⟩ := Kd.R_slice HO171.out; subst eo34) | ((with_reducible refine gate_callee (f := 34) rfl ?_); refine goesL_ (some 37) rfl rfl Try.func34 qdc2_28 rfl #[.agg #[.slice Ao30 t166.length co30, .slice Ao34 t169.length co34, .int .i64 t172], .int .u64 a1, .int .i64 a2] rfl qdc2_10 ?_; (with_reducible refine (impl_DictCut.calls _ _ t166 _ _ t169 t172 a1 a2 t174 t177 t180 t181 _ ?side1 ?side2 ?side3 ?side4 A12.out).mono ?_); (case side1 => exact (by refine (Kd.R_reads' (e := 2) (base := w.heap.size) (ok := fun k_ => ((True ∧ some k_ ≠ (.slice Ao19 t150.length co19 : Value).ownBlock) ∧ some k_ ≠ (.slice Ao23 t157.length co23 : Value).ownBlock)) (n := t166.length) (c := co30) ?_).2.2; exact (qdc2_6 HO168 BK173))); (case side2 => exact (Kd.R_reads' HO168.out).2.1); (case side3 => exact (by refine (Kd.R_reads' (e := 62) (base := w.heap.size) (ok := fun k_ => ((True ∧ some k_ ≠ (.slice Ao20 t153.length co20 : Value).ownBlock) ∧ some k_ ≠ (.slice Ao26 t160.length co26 : Value).ownBlock)) (n := t169.length) (c := co34) ?_).2.2; exact (qdc2_6 HO171 BK173))); (case side4 => exact (Kd.R_reads' HO171.out).2.1); rintro e w35 ⟨v175, v178, rfl, ho0, ho1, hb⟩; refine ⟨_, rfl, ?_⟩; have n0_ := Aside0.mk (Kd.R_elder' (qdc2_6 HO152 BK173) (Kd.R_base ho0) hb); have n1_ := Aside0.mk (Kd.R_elder' (qdc2_6 HO155 BK173) (Kd.R_base ho1) hb); have n2_ := Aside0.mk (Kd.R_elder' (qdc2_6 HO159 BK173) (Kd.R_base ho0) hb); have n3_ := Aside0.mk (Kd.R_elder' (qdc2_6 HO162 BK173) (Kd.R_base ho1) hb); have n4_ := Aside0.mk (Kd.R_elder' (qdc2_6 HO168 BK173) (Kd.R_base ho0) hb); have n5_ := Aside0.mk (Kd.R_elder' (qdc2_6 HO171 BK173) (Kd.R_base ho1) hb); have n6_ := Aside0.mk (Kd.R_lower (Kd.R_new' (Kd.R_new' (Kd.R_new' ho0 (Kd.R_lt (qdc2_6 HO152 BK173))) (Kd.R_lt (qdc2_6 HO159 BK173))) (Kd.R_lt (qdc2_6 HO168 BK173))) (below_size (qdc2_14 HB GE148 GE165 GE173))); have n7_ := Aside0.mk (Kd.R_lower (Kd.R_new' (Kd.R_new' (Kd.R_new' ho1 (Kd.R_lt (qdc2_6 HO155 BK173))) (Kd.R_lt (qdc2_6 HO162 BK173))) (Kd.R_lt (qdc2_6 HO171 BK173))) (below_size (qdc2_14 HB GE148 GE165 GE173))); have n8_ := Aside0.mk (blk_below (g := gb148) (o := .cells #[.slice A0_0 l0_0.length c0_0, .slice A0_1 l0_1.length c0_1, .int .i64 a0_2] 40 (0, 0)) (qdc2_4 NB148_173 BK148) hb); have n9_ := Aside0.mk (blk_below (g := gb165) (o := .cells #[.slice Ao23 t157.length co23, .slice Ao26 t160.length co26, .int .i64 t163] 25 (0, 0)) (qdc2_4 NB165_173 BK165) hb); have n10_ := Aside0.mk (blk_below (g := gb173) (o := .cells #[.slice Ao30 t166.length co30, .slice Ao34 t169.length co34, .int .i64 t172] 25 (0, 0)) (by (with_reducible repeat (first | refine blk_drewN ?_ _ | refine blk_drew ?_ | refine blk_alloc ?_ _)); refine blk_put (cs := #[.slice Ao30 t166.length co30, .slice Ao34 t169.length co34, .int .i64 0]) ?_ 2 _ rfl; (with_reducible repeat (first | refine blk_drewN ?_ _ | refine blk_drew ?_ | refine blk_alloc ?_ _)); refine blk_put (cs := #[.slice Ao30 t166.length co30, .slice none 0 0, .int .i64 0]) ?_ 1 _ rfl; (with_reducible repeat (first | refine blk_drewN ?_ _ | refine blk_drew ?_ | refine blk_alloc ?_ _)); refine blk_put (cs := #[.slice none 0 0, .slice none 0 0, .int .i64 0]) ?_ 0 _ rfl; (with_reducible repeat (first | refine blk_drewN ?_ _ | refine blk_drew ?_ | refine blk_alloc ?_ _)); exact BK173.out) hb); have n11_ := Aside0.mk (below_step (qdc2_14 HB GE148 GE165 GE173) hb); clear HO152; clear HO155; clear HO159; clear HO162; clear HO168; clear HO171; clear BK148; clear BK165; clear BK173; clear HB; have HO152 := n0_; have HO155 := n1_; have HO159 := n2_; have HO162 := n3_; have HO168 := n4_; have HO171 := n5_; have HO176 := n6_; have HO179 := n7_; have BK148 := n8_; have BK165 := n9_; have BK173 := n10_; have HB := n11_; clear n0_ n1_ n2_ n3_ n4_ n5_ n6_ n7_ n8_ n9_ n10_ n11_; (try clear hb); (try clear hb2); (try clear hk); (try clear hi); (try clear ho0); (try clear ho1)) | ((with_reducible refine gate_dst (N := 11) rfl ?_); refine box_event ?hg (N := 11) ?hd (cs := #[.slice none 0 0, .slice none 0 0, .int .i64 0]) (t := 25) ?hr ?_; (case hd => rfl); (case hg => rfl); (case hr => exact (by first | (go_simp; done) | (go_simp; rfl))); intro gb182 hg w36 hbox hb; have n0_ := Aside0.mk (Kd.R_below (qdc2_2 HO152) hb); have n1_ := Aside0.mk (Kd.R_below (qdc2_2 HO155) hb); have n2_ := Aside0.mk (Kd.R_below (qdc2_2 HO159) hb); have n3_ := Aside0.mk (Kd.R_below (qdc2_2 HO162) hb); have n4_ := Aside0.mk (Kd.R_below (qdc2_2 HO168) hb); have n5_ := Aside0.mk (Kd.R_below (qdc2_2 HO171) hb); have n6_ := Aside0.mk (Kd.R_below (qdc2_2 HO176) hb); have n7_ := Aside0.mk (Kd.R_below (qdc2_2 HO179) hb); have n8_ := Aside0.mk (blk_below (g := gb148) (o := .cells #[.slice A0_0 l0_0.length c0_0, .slice A0_1 l0_1.length c0_1, .int .i64 a0_2] 40 (0, 0)) (qdc2_5 BK148) hb); have n9_ := Aside0.mk (blk_below (g := gb165) (o := .cells #[.slice Ao23 t157.length co23, .slice Ao26 t160.length co26, .int .i64 t163] 25 (0, 0)) (qdc2_5 BK165) hb); have n10_ := Aside0.mk (blk_below (g := gb173) (o := .cells #[.slice Ao30 t166.length co30, .slice Ao34 t169.length co34, .int .i64 t172] 25 (0, 0)) (qdc2_5 BK173) hb); have n11_ := Aside0.mk (below_step (qdc2_14 HB GE148 GE165 GE173) hb); have n12_ := Aside0.mk (hbox); have n13_ := Aside0.mk ((by rw [hg]; exact (below_size (qdc2_14 HB GE148 GE165 GE173)) : w.heap.size ≤ gb182)); have n14_ := Aside0.mk ((by rw [hg]; exact (below_size (qdc2_14 HB GE148 GE165 GE173)) : w.heap.size ≤ gb182)); have n15_ := Aside0.mk ((by rw [hg]; exact Nat.ne_of_lt (blk_lt (g := gb148) (o := .cells #[.slice A0_0 l0_0.length c0_0, .slice A0_1 l0_1.length c0_1, .int .i64 a0_2] 40 (0, 0)) (qdc2_5 BK148)) : gb148 ≠ gb182)); have n16_ := Aside0.mk ((by rw [hg]; exact Nat.ne_of_gt (blk_lt (g := gb148) (o := .cells #[.slice A0_0 l0_0.length c0_0, .slice A0_1 l0_1.length c0_1, .int .i64 a0_2] 40 (0, 0)) (qdc2_5 BK148)) : gb182 ≠ gb148)); have n17_ := Aside0.mk ((by rw [hg]; exact Nat.ne_of_lt (blk_lt (g := gb165) (o := .cells #[.slice Ao23 t157.length co23, .slice Ao26 t160.length co26, .int .i64 t163] 25 (0, 0)) (qdc2_5 BK165)) : gb165 ≠ gb182)); have n18_ := Aside0.mk ((by rw [hg]; exact Nat.ne_of_gt (blk_lt (g := gb165) (o := .cells #[.slice Ao23 t157.length co23, .slice Ao26 t160.length co26, .int .i64 t163] 25 (0, 0)) (qdc2_5 BK165)) : gb182 ≠ gb165)); have n19_ := Aside0.mk ((by rw [hg]; exact Nat.ne_of_lt (blk_lt (g := gb173) (o := .cells #[.slice Ao30 t166.length co30, .slice Ao34 t169.length co34, .int .i64 t172] 25 (0, 0)) (qdc2_5 BK173)) : gb173 ≠ gb182)); have n20_ := Aside0.mk ((by rw [hg]; exact Nat.ne_of_gt (blk_lt (g := gb173) (o := .cells #[.slice Ao30 t166.length co30, .slice Ao34 t169.length co34, .int .i64 t172] 25 (0, 0)) (qdc2_5 BK173)) : gb182 ≠ gb173)); clear HO152; clear HO155; clear HO159; clear HO162; clear HO168; clear HO171; clear HO176; clear HO179; clear BK148; clear BK165; clear BK173; clear HB; have HO152 := n0_; have HO155 := n1_; have HO159 := n2_; have HO162 := n3_; have HO168 := n4_; have HO171 := n5_; have HO176 := n6_; have HO179 := n7_; have BK148 := n8_; have BK165 := n9_; have BK173 := n10_; have HB := n11_; have BK182 := n12_; have GW182 := n13_; have GE182 := n14_; have NB148_182 := n15_; have NB182_148 := n16_; have NB165_182 := n17_; have NB182_165 := n18_; have NB173_182 := n19_; have NB182_173 := n20_; clear n0_ n1_ n2_ n3_ n4_ n5_ n6_ n7_ n8_ n9_ n10_ n11_ n12_ n13_ n14_ n15_ n16_ n17_ n18_ n19_ n20_; clear hb hbox hg; obtain ⟨Ao37, co37, eo37⟩ := Kd.R_slice HO176.out; subst eo37; have hnb38 := NB182_148.out; have hnc38 := NB148_182.out; have hnb39 := NB182_165.out; have hnc39 := NB165_182.out; have hnb40 := NB182_173.out; have hnc40 := NB173_182.out; have hcz41_0 : w36.cell? ⟨gb182, 0, none⟩ = some (.slice none 0 0) := (blk_cell BK182.out 0).trans rfl; have hcz41_1 : w36.cell? ⟨gb182, 1, none⟩ = some (.slice none 0 0) := (blk_cell BK182.out 1).trans rfl; have hcz41_2 : w36.cell? ⟨gb182, 2, none⟩ = some (.int .i64 0) := (blk_cell BK182.out 2).trans rfl; have hfz41_0 := blk_frozen BK182.out 0; have hfz41_1 := blk_frozen BK182.out 1; have hfz41_2 := blk_frozen BK182.out 2; obtain ⟨Ao42, co42, eo42⟩ := Kd.R_slice HO179.out; subst eo42))
  (try simp only [Act.put, List.setIfInBounds_toArray, List.set_cons_zero, List.set_cons_succ])
  go_cut [48] (fun v48 wc => ∃ (kq : Nat) (x48_12 : Bool), v48 = .bool x48_12 ∧ Aside0 (laws_FnExactDictCut.j0 kq a1 a2 t164 t181 x48_12 l0_0 l0_1 a0_2 t157 t160 t163 t166 t169 t172 t174 t177 t180 = some r) ∧ Aside0 (kq ≤ k) ∧ Aside0 (Kd.R (Kd.int .i64) 2 wc w.heap.size (fun k_ => some k_ ≠ ((.slice Ao30 t166.length co30) : Value).ownBlock ∧ some k_ ≠ ((.slice Ao37 t174.length co37) : Value).ownBlock) (.slice Ao23 t157.length co23) t157) ∧ Aside0 (Kd.R k62 62 wc w.heap.size (fun k_ => some k_ ≠ ((.slice Ao34 t169.length co34) : Value).ownBlock ∧ some k_ ≠ ((.slice Ao42 t177.length co42) : Value).ownBlock) (.slice Ao26 t160.length co26) t160) ∧ Aside0 (Kd.R (Kd.int .i64) 2 wc w.heap.size (fun k_ => some k_ ≠ ((.slice Ao23 t157.length co23) : Value).ownBlock ∧ some k_ ≠ ((.slice Ao37 t174.length co37) : Value).ownBlock) (.slice Ao30 t166.length co30) t166) ∧ Aside0 (Kd.R k62 62 wc w.heap.size (fun k_ => some k_ ≠ ((.slice Ao26 t160.length co26) : Value).ownBlock ∧ some k_ ≠ ((.slice Ao42 t177.length co42) : Value).ownBlock) (.slice Ao34 t169.length co34) t169) ∧ Aside0 (Kd.R (Kd.int .i64) 2 wc w.heap.size (fun k_ => some k_ ≠ ((.slice Ao23 t157.length co23) : Value).ownBlock ∧ some k_ ≠ ((.slice Ao30 t166.length co30) : Value).ownBlock) (.slice Ao37 t174.length co37) t174) ∧ Aside0 (Kd.R k62 62 wc w.heap.size (fun k_ => some k_ ≠ ((.slice Ao26 t160.length co26) : Value).ownBlock ∧ some k_ ≠ ((.slice Ao34 t169.length co34) : Value).ownBlock) (.slice Ao42 t177.length co42) t177) ∧ Aside0 (wc.heap[gb148]? = some (.cells #[(.slice A0_0 l0_0.length c0_0), (.slice A0_1 l0_1.length c0_1), .int .i64 a0_2] 40 (0, 0))) ∧ Aside0 (wc.heap[gb165]? = some (.cells #[(.slice Ao23 t157.length co23), (.slice Ao26 t160.length co26), .int .i64 t163] 25 (0, 0))) ∧ Aside0 (wc.heap[gb173]? = some (.cells #[(.slice Ao30 t166.length co30), (.slice Ao34 t169.length co34), .int .i64 t172] 25 (0, 0))) ∧ Aside0 (wc.heap[gb182]? = some (.cells #[(.slice Ao37 t174.length co37), (.slice Ao42 t177.length co42), .int .i64 t180] 25 (0, 0))) ∧ Aside0 (Below w.heap.size w wc))
  case first =>
   have H := HC13.out
   clear HC13
   replace H := Option.bind_eq_some_iff.mp H
   obtain ⟨t183, A430, H⟩ := H
   replace H : (if t183 = true then (laws_FnExactDictCut.j0 k a1 a2 t164 t181 (t181 != t164) l0_0 l0_1 a0_2 t157 t160 t163 t166 t169 t172 t174 t177 t180) else (laws_FnExactDictCut.j0 k a1 a2 t164 t181 true l0_0 l0_1 a0_2 t157 t160 t163 t166 t169 t172 t174 t177 t180)) = some r := H
   have A43 := Aside0.mk A430
   clear A430
   by_cases c44 : t183 = true
   ·subst c44
    have H1 : (laws_FnExactDictCut.j0 k a1 a2 t164 t181 (t181 != t164) l0_0 l0_1 a0_2 t157 t160 t163 t166 t169 t172 t174 t177 t180) = some r := by rw [if_pos rfl] at H; exact H
    clear H
    have H := H1
    clear H1
    have H' := Aside0.mk H
    clear H
    have hnb45 := NB182_148.out
    have hnc45 := NB148_182.out
    have hnb46 := NB182_165.out
    have hnc46 := NB165_182.out
    have hnb47 := NB182_173.out
    have hnc47 := NB173_182.out
    have hcz48_0 : w36.cell? ⟨gb182, 0, none⟩ = some (.slice none 0 0) := (blk_cell BK182.out 0).trans rfl
    have hcz48_1 : w36.cell? ⟨gb182, 1, none⟩ = some (.slice none 0 0) := (blk_cell BK182.out 1).trans rfl
    have hcz48_2 : w36.cell? ⟨gb182, 2, none⟩ = some (.int .i64 0) := (blk_cell BK182.out 2).trans rfl
    have hfz48_0 := blk_frozen BK182.out 0
    have hfz48_1 := blk_frozen BK182.out 1
    have hfz48_2 := blk_frozen BK182.out 2
    have hnb49 := NB165_148.out
    have hnc49 := NB148_165.out
    have hnb50 := NB165_173.out
    have hnc50 := NB173_165.out
    have hcz51_0 : w36.cell? ⟨gb165, 0, none⟩ = some (.slice Ao23 t157.length co23) := (blk_cell BK165.out 0).trans rfl
    have hcz51_1 : w36.cell? ⟨gb165, 1, none⟩ = some (.slice Ao26 t160.length co26) := (blk_cell BK165.out 1).trans rfl
    have hcz51_2 : w36.cell? ⟨gb165, 2, none⟩ = some (.int .i64 t163) := (blk_cell BK165.out 2).trans rfl
    have hfz51_0 := blk_frozen BK165.out 0
    have hfz51_1 := blk_frozen BK165.out 1
    have hfz51_2 := blk_frozen BK165.out 2
    go_wp2_with (first | ((with_reducible refine gate_callee (f := 13) rfl ?_); refine goesL_ (some 42) rfl rfl Try.func13 qdc2_28 rfl #[.agg #[.slice Ao37 t174.length co37, .slice Ao42 t177.length co42, .int .i64 t180], .agg #[.slice Ao23 t157.length co23, .slice Ao26 t160.length co26, .int .i64 t163]] rfl qdc2_10 ?_; (with_reducible refine (laws_eqDict.calls k _ _ t174 _ _ t177 t180 _ _ t157 _ _ t160 t163 true _ ?side1 ?side2 ?side3 ?side4 ?side5 ?side6 ?side7 ?side8 A43.out).mono ?_); (case side1 => exact qdc2_24); (case side2 => exact (Kd.R_reads' HO176.out).2.1); (case side3 => exact qdc2_22); (case side4 => exact (Kd.R_reads' HO179.out).2.1); (case side5 => exact qdc2_25); (case side6 => exact (Kd.R_reads' HO159.out).2.1); (case side7 => exact qdc2_23); (case side8 => exact (Kd.R_reads' HO162.out).2.1); rintro e w52 ⟨rfl, hb⟩; refine ⟨_, rfl, ?_⟩; have n0_ := Aside0.mk (Kd.R_below (qdc2_3 HO152 BK182) hb); have n1_ := Aside0.mk (Kd.R_below (qdc2_3 HO155 BK182) hb); have n2_ := Aside0.mk (Kd.R_below (qdc2_3 HO159 BK182) hb); have n3_ := Aside0.mk (Kd.R_below (qdc2_3 HO162 BK182) hb); have n4_ := Aside0.mk (Kd.R_below (qdc2_3 HO168 BK182) hb); have n5_ := Aside0.mk (Kd.R_below (qdc2_3 HO171 BK182) hb); have n6_ := Aside0.mk (Kd.R_below (qdc2_3 HO176 BK182) hb); have n7_ := Aside0.mk (Kd.R_below (qdc2_3 HO179 BK182) hb); have n8_ := Aside0.mk (blk_below (g := gb148) (o := .cells #[.slice A0_0 l0_0.length c0_0, .slice A0_1 l0_1.length c0_1, .int .i64 a0_2] 40 (0, 0)) (qdc2_4 NB148_182 BK148) hb); have n9_ := Aside0.mk (blk_below (g := gb165) (o := .cells #[.slice Ao23 t157.length co23, .slice Ao26 t160.length co26, .int .i64 t163] 25 (0, 0)) (qdc2_4 NB165_182 BK165) hb); have n10_ := Aside0.mk (blk_below (g := gb173) (o := .cells #[.slice Ao30 t166.length co30, .slice Ao34 t169.length co34, .int .i64 t172] 25 (0, 0)) (qdc2_4 NB173_182 BK173) hb); have n11_ := Aside0.mk (blk_below (g := gb182) (o := .cells #[.slice Ao37 t174.length co37, .slice Ao42 t177.length co42, .int .i64 t180] 25 (0, 0)) (qdc2_16 BK182) hb); have n12_ := Aside0.mk (below_step (qdc2_7 HB GE148 GE165 GE173 GE182) hb); clear HO152; clear HO155; clear HO159; clear HO162; clear HO168; clear HO171; clear HO176; clear HO179; clear BK148; clear BK165; clear BK173; clear BK182; clear HB; have HO152 := n0_; have HO155 := n1_; have HO159 := n2_; have HO162 := n3_; have HO168 := n4_; have HO171 := n5_; have HO176 := n6_; have HO179 := n7_; have BK148 := n8_; have BK165 := n9_; have BK173 := n10_; have BK182 := n11_; have HB := n12_; clear n0_ n1_ n2_ n3_ n4_ n5_ n6_ n7_ n8_ n9_ n10_ n11_ n12_; (try clear hb); (try clear hb2); (try clear hk); (try clear hi)))
    go_meet
    case rel => exact ⟨_, ((t181 != t164)), qdc2_27, H', ⟨by first | omega | exact Nat.le_refl _⟩, ⟨by (with_reducible repeat (first | apply Kd.R_alloc | apply Kd.R_drewN | apply Kd.R_drew)); exact Kd.R_mono HO159.out (fun _ hk => ⟨hk.1.2, hk.2⟩)⟩, ⟨by (with_reducible repeat (first | apply Kd.R_alloc | apply Kd.R_drewN | apply Kd.R_drew)); exact Kd.R_mono HO162.out (fun _ hk => ⟨hk.1.2, hk.2⟩)⟩, ⟨by (with_reducible repeat (first | apply Kd.R_alloc | apply Kd.R_drewN | apply Kd.R_drew)); exact Kd.R_mono HO168.out (fun _ hk => ⟨hk.1.2, hk.2⟩)⟩, ⟨by (with_reducible repeat (first | apply Kd.R_alloc | apply Kd.R_drewN | apply Kd.R_drew)); exact Kd.R_mono HO171.out (fun _ hk => ⟨hk.1.2, hk.2⟩)⟩, ⟨by (with_reducible repeat (first | apply Kd.R_alloc | apply Kd.R_drewN | apply Kd.R_drew)); exact Kd.R_mono HO176.out (fun _ hk => ⟨hk.1.2, hk.2⟩)⟩, ⟨by (with_reducible repeat (first | apply Kd.R_alloc | apply Kd.R_drewN | apply Kd.R_drew)); exact Kd.R_mono HO179.out (fun _ hk => ⟨hk.1.2, hk.2⟩)⟩, ⟨by (with_reducible repeat (first | refine blk_drewN ?_ _ | refine blk_drew ?_ | refine blk_alloc ?_ _)); exact BK148.out⟩, ⟨by (with_reducible repeat (first | refine blk_drewN ?_ _ | refine blk_drew ?_ | refine blk_alloc ?_ _)); exact BK165.out⟩, ⟨by (with_reducible repeat (first | refine blk_drewN ?_ _ | refine blk_drew ?_ | refine blk_alloc ?_ _)); exact BK173.out⟩, ⟨by (with_reducible repeat (first | refine blk_drewN ?_ _ | refine blk_drew ?_ | refine blk_alloc ?_ _)); exact BK182.out⟩, ⟨by repeat (first | (with_reducible first | exact HB.out | apply below_alloc | apply pw_below_drewN | apply below_drew1 | refine below_set ?_ GE148.out | refine below_set ?_ GE165.out | refine below_set ?_ GE173.out | refine below_set ?_ GE182.out) | exact HB.out)⟩⟩
   ·replace c44 := Bool.eq_false_iff.mpr c44
    subst c44
    have H1 : (laws_FnExactDictCut.j0 k a1 a2 t164 t181 true l0_0 l0_1 a0_2 t157 t160 t163 t166 t169 t172 t174 t177 t180) = some r := by rw [if_neg (show ¬ (false = true) by decide)] at H; exact H
    clear H
    have H := H1
    clear H1
    have H' := Aside0.mk H
    clear H
    have hnb53 := NB182_148.out
    have hnc53 := NB148_182.out
    have hnb54 := NB182_165.out
    have hnc54 := NB165_182.out
    have hnb55 := NB182_173.out
    have hnc55 := NB173_182.out
    have hcz56_0 : w36.cell? ⟨gb182, 0, none⟩ = some (.slice none 0 0) := (blk_cell BK182.out 0).trans rfl
    have hcz56_1 : w36.cell? ⟨gb182, 1, none⟩ = some (.slice none 0 0) := (blk_cell BK182.out 1).trans rfl
    have hcz56_2 : w36.cell? ⟨gb182, 2, none⟩ = some (.int .i64 0) := (blk_cell BK182.out 2).trans rfl
    have hfz56_0 := blk_frozen BK182.out 0
    have hfz56_1 := blk_frozen BK182.out 1
    have hfz56_2 := blk_frozen BK182.out 2
    have hnb57 := NB165_148.out
    have hnc57 := NB148_165.out
    have hnb58 := NB165_173.out
    have hnc58 := NB173_165.out
    have hcz59_0 : w36.cell? ⟨gb165, 0, none⟩ = some (.slice Ao23 t157.length co23) := (blk_cell BK165.out 0).trans rfl
    have hcz59_1 : w36.cell? ⟨gb165, 1, none⟩ = some (.slice Ao26 t160.length co26) := (blk_cell BK165.out 1).trans rfl
    have hcz59_2 : w36.cell? ⟨gb165, 2, none⟩ = some (.int .i64 t163) := (blk_cell BK165.out 2).trans rfl
    have hfz59_0 := blk_frozen BK165.out 0
    have hfz59_1 := blk_frozen BK165.out 1
    have hfz59_2 := blk_frozen BK165.out 2
    go_wp2_with (first | ((with_reducible refine gate_callee (f := 13) rfl ?_); refine goesL_ (some 42) rfl rfl Try.func13 qdc2_28 rfl #[.agg #[.slice Ao37 t174.length co37, .slice Ao42 t177.length co42, .int .i64 t180], .agg #[.slice Ao23 t157.length co23, .slice Ao26 t160.length co26, .int .i64 t163]] rfl qdc2_10 ?_; (with_reducible refine (laws_eqDict.calls k _ _ t174 _ _ t177 t180 _ _ t157 _ _ t160 t163 false _ ?side1 ?side2 ?side3 ?side4 ?side5 ?side6 ?side7 ?side8 A43.out).mono ?_); (case side1 => exact qdc2_24); (case side2 => exact (Kd.R_reads' HO176.out).2.1); (case side3 => exact qdc2_22); (case side4 => exact (Kd.R_reads' HO179.out).2.1); (case side5 => exact qdc2_25); (case side6 => exact (Kd.R_reads' HO159.out).2.1); (case side7 => exact qdc2_23); (case side8 => exact (Kd.R_reads' HO162.out).2.1); rintro e w60 ⟨rfl, hb⟩; refine ⟨_, rfl, ?_⟩; have n0_ := Aside0.mk (Kd.R_below (qdc2_3 HO152 BK182) hb); have n1_ := Aside0.mk (Kd.R_below (qdc2_3 HO155 BK182) hb); have n2_ := Aside0.mk (Kd.R_below (qdc2_3 HO159 BK182) hb); have n3_ := Aside0.mk (Kd.R_below (qdc2_3 HO162 BK182) hb); have n4_ := Aside0.mk (Kd.R_below (qdc2_3 HO168 BK182) hb); have n5_ := Aside0.mk (Kd.R_below (qdc2_3 HO171 BK182) hb); have n6_ := Aside0.mk (Kd.R_below (qdc2_3 HO176 BK182) hb); have n7_ := Aside0.mk (Kd.R_below (qdc2_3 HO179 BK182) hb); have n8_ := Aside0.mk (blk_below (g := gb148) (o := .cells #[.slice A0_0 l0_0.length c0_0, .slice A0_1 l0_1.length c0_1, .int .i64 a0_2] 40 (0, 0)) (qdc2_4 NB148_182 BK148) hb); have n9_ := Aside0.mk (blk_below (g := gb165) (o := .cells #[.slice Ao23 t157.length co23, .slice Ao26 t160.length co26, .int .i64 t163] 25 (0, 0)) (qdc2_4 NB165_182 BK165) hb); have n10_ := Aside0.mk (blk_below (g := gb173) (o := .cells #[.slice Ao30 t166.length co30, .slice Ao34 t169.length co34, .int .i64 t172] 25 (0, 0)) (qdc2_4 NB173_182 BK173) hb); have n11_ := Aside0.mk (blk_below (g := gb182) (o := .cells #[.slice Ao37 t174.length co37, .slice Ao42 t177.length co42, .int .i64 t180] 25 (0, 0)) (qdc2_16 BK182) hb); have n12_ := Aside0.mk (below_step (qdc2_7 HB GE148 GE165 GE173 GE182) hb); clear HO152; clear HO155; clear HO159; clear HO162; clear HO168; clear HO171; clear HO176; clear HO179; clear BK148; clear BK165; clear BK173; clear BK182; clear HB; have HO152 := n0_; have HO155 := n1_; have HO159 := n2_; have HO162 := n3_; have HO168 := n4_; have HO171 := n5_; have HO176 := n6_; have HO179 := n7_; have BK148 := n8_; have BK165 := n9_; have BK173 := n10_; have BK182 := n11_; have HB := n12_; clear n0_ n1_ n2_ n3_ n4_ n5_ n6_ n7_ n8_ n9_ n10_ n11_ n12_; (try clear hb); (try clear hb2); (try clear hk); (try clear hi)))
    go_meet
    case rel => exact ⟨_, (true), qdc2_27, H', ⟨by first | omega | exact Nat.le_refl _⟩, ⟨by (with_reducible repeat (first | apply Kd.R_alloc | apply Kd.R_drewN | apply Kd.R_drew)); exact Kd.R_mono HO159.out (fun _ hk => ⟨hk.1.2, hk.2⟩)⟩, ⟨by (with_reducible repeat (first | apply Kd.R_alloc | apply Kd.R_drewN | apply Kd.R_drew)); exact Kd.R_mono HO162.out (fun _ hk => ⟨hk.1.2, hk.2⟩)⟩, ⟨by (with_reducible repeat (first | apply Kd.R_alloc | apply Kd.R_drewN | apply Kd.R_drew)); exact Kd.R_mono HO168.out (fun _ hk => ⟨hk.1.2, hk.2⟩)⟩, ⟨by (with_reducible repeat (first | apply Kd.R_alloc | apply Kd.R_drewN | apply Kd.R_drew)); exact Kd.R_mono HO171.out (fun _ hk => ⟨hk.1.2, hk.2⟩)⟩, ⟨by (with_reducible repeat (first | apply Kd.R_alloc | apply Kd.R_drewN | apply Kd.R_drew)); exact Kd.R_mono HO176.out (fun _ hk => ⟨hk.1.2, hk.2⟩)⟩, ⟨by (with_reducible repeat (first | apply Kd.R_alloc | apply Kd.R_drewN | apply Kd.R_drew)); exact Kd.R_mono HO179.out (fun _ hk => ⟨hk.1.2, hk.2⟩)⟩, ⟨by (with_reducible repeat (first | refine blk_drewN ?_ _ | refine blk_drew ?_ | refine blk_alloc ?_ _)); exact BK148.out⟩, ⟨by (with_reducible repeat (first | refine blk_drewN ?_ _ | refine blk_drew ?_ | refine blk_alloc ?_ _)); exact BK165.out⟩, ⟨by (with_reducible repeat (first | refine blk_drewN ?_ _ | refine blk_drew ?_ | refine blk_alloc ?_ _)); exact BK173.out⟩, ⟨by (with_reducible repeat (first | refine blk_drewN ?_ _ | refine blk_drew ?_ | refine blk_alloc ?_ _)); exact BK182.out⟩, ⟨by repeat (first | (with_reducible first | exact HB.out | apply below_alloc | apply pw_below_drewN | apply below_drew1 | refine below_set ?_ GE148.out | refine below_set ?_ GE165.out | refine below_set ?_ GE173.out | refine below_set ?_ GE182.out) | exact HB.out)⟩⟩
  case rest =>
   clear HC13
   try clear c1
   try clear c2
   try clear p2
   try clear c3
   try clear c4
   try clear c5
   try clear c5b0
   try clear c8
   try clear c13
   try clear c19
   try clear c21
   try clear c24
   try clear c31
   try clear c32
   try clear c33
   try clear c34
   try clear c38
   try clear c39
   try clear c40
   try clear c44
   try clear c45
   try clear c46
   try clear c47
   try clear c49
   try clear c50
   try clear c53
   try clear c54
   try clear c55
   try clear c57
   try clear c58
   try clear hcz15_0
   try clear hcz15_1
   try clear hcz15_2
   try clear hcz17_0
   try clear hcz17_1
   try clear hcz17_2
   try clear hcz25_0
   try clear hcz25_1
   try clear hcz25_2
   try clear hcz27_0
   try clear hcz27_1
   try clear hcz27_2
   try clear hcz33_0
   try clear hcz33_1
   try clear hcz33_2
   try clear hcz41_0
   try clear hcz41_1
   try clear hcz41_2
   try clear hcz48_0
   try clear hcz48_1
   try clear hcz48_2
   try clear hcz51_0
   try clear hcz51_1
   try clear hcz51_2
   try clear hcz56_0
   try clear hcz56_1
   try clear hcz56_2
   try clear hcz59_0
   try clear hcz59_1
   try clear hcz59_2
   try clear hcz7_0
   try clear hcz7_1
   try clear hcz7_2
   try clear hfz15_0
   try clear hfz15_1
   try clear hfz15_2
   try clear hfz17_0
   try clear hfz17_1
   try clear hfz17_2
   try clear hfz25_0
   try clear hfz25_1
   try clear hfz25_2
   try clear hfz27_0
   try clear hfz27_1
   try clear hfz27_2
   try clear hfz33_0
   try clear hfz33_1
   try clear hfz33_2
   try clear hfz41_0
   try clear hfz41_1
   try clear hfz41_2
   try clear hfz48_0
   try clear hfz48_1
   try clear hfz48_2
   try clear hfz51_0
   try clear hfz51_1
   try clear hfz51_2
   try clear hfz56_0
   try clear hfz56_1
   try clear hfz56_2
   try clear hfz59_0
   try clear hfz59_1
   try clear hfz59_2
   try clear hfz7_0
   try clear hfz7_1
   try clear hfz7_2
   obtain ⟨kq, x48_12, rfl, HA, HJ12, HO_166000, HO_166001, HO_174000, HO_174001, HO_183000, HO_183001, BK148, BK165, BK173, BK182, HB⟩ := hcut
   cases kq with
   | zero => exact absurd HA.out (by simp [laws_FnExactDictCut.j0])
   | succ kj12 =>
    have H := HA.out
    clear HA
    simp only [laws_FnExactDictCut.j0] at H
    by_cases c61 : x48_12 = true
    ·subst c61
     have H1 : (none) = some r := by rw [if_pos rfl] at H; exact H
     clear H
     have H := H1
     clear H1
     exact absurd H (by simp)
    ·replace c61 := Bool.eq_false_iff.mpr c61
     subst c61
     have H1 : ((laws_toDict.f kj12 l0_0 l0_1 a0_2).bind fun bt184 => ((laws_eqDict.f kj12 t166 t169 t172 bt184.1 bt184.2.1 bt184.2.2).bind fun t191 => (if t191 = true then ((laws_markDict.f kj12 t166 t169 t172 1).bind fun bt192 => (if bt192.1 < 0 then (laws_FnExactDictCut.j1 kj12 a1 a2 t164 true l0_0 l0_1 a0_2 t157 t160 t163 t174 t177 t180) else ((laws_eqDict.f kj12 t174 t177 t180 t157 t160 t163).bind fun t195 => (if t195 = true then (laws_FnExactDictCut.j1 kj12 a1 a2 t164 (t181 != t164) l0_0 l0_1 a0_2 t157 t160 t163 t174 t177 t180) else (laws_FnExactDictCut.j1 kj12 a1 a2 t164 true l0_0 l0_1 a0_2 t157 t160 t163 t174 t177 t180))))) else (none)))) = some r := by rw [if_neg (show ¬ (false = true) by decide)] at H; exact H
     clear H
     have H := H1
     clear H1
     replace H := Option.bind_eq_some_iff.mp H
     obtain ⟨⟨t184, t187, t190⟩, A620, H⟩ := H
     replace H : ((laws_eqDict.f kj12 t166 t169 t172 t184 t187 t190).bind fun t191 => (if t191 = true then ((laws_markDict.f kj12 t166 t169 t172 1).bind fun bt192 => (if bt192.1 < 0 then (laws_FnExactDictCut.j1 kj12 a1 a2 t164 true l0_0 l0_1 a0_2 t157 t160 t163 t174 t177 t180) else ((laws_eqDict.f kj12 t174 t177 t180 t157 t160 t163).bind fun t195 => (if t195 = true then (laws_FnExactDictCut.j1 kj12 a1 a2 t164 (t181 != t164) l0_0 l0_1 a0_2 t157 t160 t163 t174 t177 t180) else (laws_FnExactDictCut.j1 kj12 a1 a2 t164 true l0_0 l0_1 a0_2 t157 t160 t163 t174 t177 t180))))) else (none))) = some r := H
     have A62 := Aside0.mk A620
     clear A620
     replace H := Option.bind_eq_some_iff.mp H
     obtain ⟨t191, A630, H⟩ := H
     replace H : (if t191 = true then ((laws_markDict.f kj12 t166 t169 t172 1).bind fun bt192 => (if bt192.1 < 0 then (laws_FnExactDictCut.j1 kj12 a1 a2 t164 true l0_0 l0_1 a0_2 t157 t160 t163 t174 t177 t180) else ((laws_eqDict.f kj12 t174 t177 t180 t157 t160 t163).bind fun t195 => (if t195 = true then (laws_FnExactDictCut.j1 kj12 a1 a2 t164 (t181 != t164) l0_0 l0_1 a0_2 t157 t160 t163 t174 t177 t180) else (laws_FnExactDictCut.j1 kj12 a1 a2 t164 true l0_0 l0_1 a0_2 t157 t160 t163 t174 t177 t180))))) else (none)) = some r := H
     have A63 := Aside0.mk A630
     clear A630
     by_cases c64 : t191 = true
     ·subst c64
      have H1 : ((laws_markDict.f kj12 t166 t169 t172 1).bind fun bt192 => (if bt192.1 < 0 then (laws_FnExactDictCut.j1 kj12 a1 a2 t164 true l0_0 l0_1 a0_2 t157 t160 t163 t174 t177 t180) else ((laws_eqDict.f kj12 t174 t177 t180 t157 t160 t163).bind fun t195 => (if t195 = true then (laws_FnExactDictCut.j1 kj12 a1 a2 t164 (t181 != t164) l0_0 l0_1 a0_2 t157 t160 t163 t174 t177 t180) else (laws_FnExactDictCut.j1 kj12 a1 a2 t164 true l0_0 l0_1 a0_2 t157 t160 t163 t174 t177 t180))))) = some r := by rw [if_pos rfl] at H; exact H
      clear H
      have H := H1
      clear H1
      replace H := Option.bind_eq_some_iff.mp H
      obtain ⟨⟨t192, t193, t194⟩, A650, H⟩ := H
      replace H : (if t192 < 0 then (laws_FnExactDictCut.j1 kj12 a1 a2 t164 true l0_0 l0_1 a0_2 t157 t160 t163 t174 t177 t180) else ((laws_eqDict.f kj12 t174 t177 t180 t157 t160 t163).bind fun t195 => (if t195 = true then (laws_FnExactDictCut.j1 kj12 a1 a2 t164 (t181 != t164) l0_0 l0_1 a0_2 t157 t160 t163 t174 t177 t180) else (laws_FnExactDictCut.j1 kj12 a1 a2 t164 true l0_0 l0_1 a0_2 t157 t160 t163 t174 t177 t180)))) = some r := H
      have A65 := Aside0.mk A650
      clear A650
      have HC66 := Aside0.mk H
      clear H
      try go_wp2
      have n0_ := Aside0.mk (Kd.R_drew HO_166000.out)
      have n1_ := Aside0.mk (Kd.R_drew HO_166001.out)
      have n2_ := Aside0.mk (Kd.R_drew HO_174000.out)
      have n3_ := Aside0.mk (Kd.R_drew HO_174001.out)
      have n4_ := Aside0.mk (Kd.R_drew HO_183000.out)
      have n5_ := Aside0.mk (Kd.R_drew HO_183001.out)
      have n6_ := Aside0.mk (blk_drew BK148.out)
      have n7_ := Aside0.mk (blk_drew BK165.out)
      have n8_ := Aside0.mk (blk_drew BK173.out)
      have n9_ := Aside0.mk (blk_drew BK182.out)
      have n10_ := Aside0.mk (below_drew1 HB.out)
      clear HO_166000
      clear HO_166001
      clear HO_174000
      clear HO_174001
      clear HO_183000
      clear HO_183001
      clear BK148
      clear BK165
      clear BK173
      clear BK182
      clear HB
      have HO_166000 := n0_
      have HO_166001 := n1_
      have HO_174000 := n2_
      have HO_174001 := n3_
      have HO_183000 := n4_
      have HO_183001 := n5_
      have BK148 := n6_
      have BK165 := n7_
      have BK173 := n8_
      have BK182 := n9_
      have HB := n10_
      clear n0_ n1_ n2_ n3_ n4_ n5_ n6_ n7_ n8_ n9_ n10_
      refine start_ (n := 5) (S := fun w' => w'.cell? ⟨gb173, 0, none⟩ = some (.slice Ao30 t166.length co30) ∧ w'.cell? ⟨gb173, 1, none⟩ = some (.slice Ao34 t169.length co34) ∧ w'.cell? ⟨gb173, 2, none⟩ = some (.int .i64 t172) ∧ w'.cell? ⟨gb148, 0, none⟩ = some (.slice A0_0 l0_0.length c0_0) ∧ w'.cell? ⟨gb148, 1, none⟩ = some (.slice A0_1 l0_1.length c0_1) ∧ w'.cell? ⟨gb148, 2, none⟩ = some (.int .i64 a0_2)) (ds := []) #[false, false, false, false, false] qdc2_28 rfl rfl ⟨(blk_cell BK173.out 0).trans rfl, (blk_cell BK173.out 1).trans rfl, (blk_cell BK173.out 2).trans rfl, (blk_cell BK148.out 0).trans rfl, (blk_cell BK148.out 1).trans rfl, (blk_cell BK148.out 2).trans rfl⟩ (fun hHeld => ?_)
      generalize wc.drew = w67 at HO_166000 HO_166001 HO_174000 HO_174001 HO_183000 HO_183001 BK148 BK165 BK173 BK182 HB hHeld ⊢
      refine take_ (i := 0) (N := some 49) (v := ?_) (a' := ?_) #[true, false, false, false, false] rfl rfl qdc2_28 (fun _ _ _ h => h) (Or.inl ⟨by rfl, ?_⟩) hHeld ?_ ?_
      rotate_left
      ·rintro w' ⟨s0, s1, s2, s3, s4, s5⟩
       go_simp
       with_reducible rfl
      rotate_left
      ·simp only [Act.put, List.setIfInBounds_toArray, List.set_cons_zero, List.set_cons_succ, i64_w, i32_w]
       rfl
      refine take_ (i := 1) (N := some 50) (v := ?_) (a' := ?_) #[true, true, false, false, false] rfl rfl qdc2_28 (fun _ _ _ h => h) (Or.inl ⟨by rfl, ?_⟩) hHeld ?_ ?_
      rotate_left
      ·rintro w' ⟨s0, s1, s2, s3, s4, s5⟩
       go_simp
       with_reducible rfl
      rotate_left
      ·simp only [Act.put, List.setIfInBounds_toArray, List.set_cons_zero, List.set_cons_succ, i64_w, i32_w]
       rfl
      refine one_ (i := 2) (N := some 51) #[true, true, true, false, false] rfl rfl qdc2_28 (by decide) (fun K hK => ?_)
      refine goes_ Try.func21 qdc2_28 rfl #[.agg #[.slice A0_0 l0_0.length c0_0, .slice A0_1 l0_1.length c0_1, .int .i64 a0_2]] (by rfl) rfl rfl qdc2_10 ?_
      with_reducible refine (laws_toDict.calls kj12 _ _ l0_0 _ _ l0_1 a0_2 t184 t187 t190 _ ?side1 ?side2 ?side3 ?side4 A62.out).mono ?_
      (case side1 => exact (qdc2_12 HR0_0 HB))
      (case side2 => exact HC0_0.out)
      (case side3 => exact (qdc2_12 HR0_1 HB))
      (case side4 => exact HC0_1.out)
      rintro e w68 ⟨v185, v188, rfl, ho0, ho1, hb⟩
      refine ⟨_, rfl, ?_⟩
      have n0_ := Aside0.mk (Kd.R_elder' (qdc2_2 HO_166000) (Kd.R_base ho0) hb)
      have n1_ := Aside0.mk (Kd.R_elder' (qdc2_2 HO_166001) (Kd.R_base ho1) hb)
      have n2_ := Aside0.mk (Kd.R_elder' (qdc2_2 HO_174000) (Kd.R_base ho0) hb)
      have n3_ := Aside0.mk (Kd.R_elder' (qdc2_2 HO_174001) (Kd.R_base ho1) hb)
      have n4_ := Aside0.mk (Kd.R_elder' (qdc2_2 HO_183000) (Kd.R_base ho0) hb)
      have n5_ := Aside0.mk (Kd.R_elder' (qdc2_2 HO_183001) (Kd.R_base ho1) hb)
      have n6_ := Aside0.mk (Kd.R_lower (Kd.R_new' (Kd.R_new' (Kd.R_new' ho0 (Kd.R_lt (qdc2_2 HO_166000))) (Kd.R_lt (qdc2_2 HO_174000))) (Kd.R_lt (qdc2_2 HO_183000))) (below_size (qdc2_7 HB GE148 GE165 GE173 GE182)))
      have n7_ := Aside0.mk (Kd.R_lower (Kd.R_new' (Kd.R_new' (Kd.R_new' ho1 (Kd.R_lt (qdc2_2 HO_166001))) (Kd.R_lt (qdc2_2 HO_174001))) (Kd.R_lt (qdc2_2 HO_183001))) (below_size (qdc2_7 HB GE148 GE165 GE173 GE182)))
      have n8_ := Aside0.mk (blk_below (g := gb148) (o := .cells #[.slice A0_0 l0_0.length c0_0, .slice A0_1 l0_1.length c0_1, .int .i64 a0_2] 40 (0, 0)) (qdc2_5 BK148) hb)
      have n9_ := Aside0.mk (blk_below (g := gb165) (o := .cells #[.slice Ao23 t157.length co23, .slice Ao26 t160.length co26, .int .i64 t163] 25 (0, 0)) (qdc2_5 BK165) hb)
      have n10_ := Aside0.mk (blk_below (g := gb173) (o := .cells #[.slice Ao30 t166.length co30, .slice Ao34 t169.length co34, .int .i64 t172] 25 (0, 0)) (qdc2_5 BK173) hb)
      have n11_ := Aside0.mk (blk_below (g := gb182) (o := .cells #[.slice Ao37 t174.length co37, .slice Ao42 t177.length co42, .int .i64 t180] 25 (0, 0)) (qdc2_5 BK182) hb)
      have n12_ := Aside0.mk (below_step (qdc2_7 HB GE148 GE165 GE173 GE182) hb)
      clear HO_166000
      clear HO_166001
      clear HO_174000
      clear HO_174001
      clear HO_183000
      clear HO_183001
      clear BK148
      clear BK165
      clear BK173
      clear BK182
      clear HB
      have HO_166000 := n0_
      have HO_166001 := n1_
      have HO_174000 := n2_
      have HO_174001 := n3_
      have HO_183000 := n4_
      have HO_183001 := n5_
      have HO186 := n6_
      have HO189 := n7_
      have BK148 := n8_
      have BK165 := n9_
      have BK173 := n10_
      have BK182 := n11_
      have HB := n12_
      clear n0_ n1_ n2_ n3_ n4_ n5_ n6_ n7_ n8_ n9_ n10_ n11_ n12_
      (try clear hb)
      (try clear hb2)
      (try clear hk)
      (try clear hi)
      (try clear ho0)
      (try clear ho1)
      obtain ⟨Ao69, co69, eo69⟩ := Kd.R_slice HO186.out
      (first | subst eo69 | (injection eo69 with f1_ f2_ f3_; have f4_ := f1_.symm; have f5_ := f3_.symm; clear f1_ f2_ f3_; subst f4_; subst f5_))
      obtain ⟨Ao70, co70, eo70⟩ := Kd.R_slice HO189.out
      (first | subst eo70 | (injection eo70 with f1_ f2_ f3_; have f4_ := f1_.symm; have f5_ := f3_.symm; clear f1_ f2_ f3_; subst f4_; subst f5_))
      refine hK.out _ _ ⟨(blk_cell BK173.out 0).trans rfl, (blk_cell BK173.out 1).trans rfl, (blk_cell BK173.out 2).trans rfl, (blk_cell BK148.out 0).trans rfl, (blk_cell BK148.out 1).trans rfl, (blk_cell BK148.out 2).trans rfl⟩ (fun hHeld => ?_)
      clear hK K
      refine norm_ (a' := ?_) ?_ ?_
      rotate_left
      ·show Act.put _ (some 51) _ = _
       simp only [Act.put, List.setIfInBounds_toArray, List.set_cons_zero, List.set_cons_succ, i64_w, i32_w]
       rfl
      refine one_ (i := 3) (N := some 52) #[true, true, true, true, false] rfl rfl qdc2_28 (by decide) (fun K hK => ?_)
      refine goes_ Try.func13 qdc2_28 rfl #[.agg #[.slice Ao30 t166.length co30, .slice Ao34 t169.length co34, .int .i64 t172], .agg #[.slice Ao69 t184.length co69, .slice Ao70 t187.length co70, .int .i64 t190]] (by rfl) rfl rfl qdc2_10 ?_
      with_reducible refine (laws_eqDict.calls kj12 _ _ t166 _ _ t169 t172 _ _ t184 _ _ t187 t190 true _ ?side1 ?side2 ?side3 ?side4 ?side5 ?side6 ?side7 ?side8 A63.out).mono ?_
      (case side1 => exact (qdc2_8 HO_174000))
      (case side2 => exact (Kd.R_reads' HO_174000.out).2.1)
      (case side3 => exact (qdc2_8 HO_174001))
      (case side4 => exact (Kd.R_reads' HO_174001.out).2.1)
      (case side5 => exact (qdc2_8 HO186))
      (case side6 => exact (Kd.R_reads' HO186.out).2.1)
      (case side7 => exact (qdc2_8 HO189))
      (case side8 => exact (Kd.R_reads' HO189.out).2.1)
      rintro e w71 ⟨rfl, hb⟩
      refine ⟨_, rfl, ?_⟩
      have n0_ := Aside0.mk (Kd.R_below (qdc2_2 HO_166000) hb)
      have n1_ := Aside0.mk (Kd.R_below (qdc2_2 HO_166001) hb)
      have n2_ := Aside0.mk (Kd.R_below (qdc2_2 HO_174000) hb)
      have n3_ := Aside0.mk (Kd.R_below (qdc2_2 HO_174001) hb)
      have n4_ := Aside0.mk (Kd.R_below (qdc2_2 HO_183000) hb)
      have n5_ := Aside0.mk (Kd.R_below (qdc2_2 HO_183001) hb)
      have n6_ := Aside0.mk (Kd.R_below (qdc2_2 HO186) hb)
      have n7_ := Aside0.mk (Kd.R_below (qdc2_2 HO189) hb)
      have n8_ := Aside0.mk (blk_below (g := gb148) (o := .cells #[.slice A0_0 l0_0.length c0_0, .slice A0_1 l0_1.length c0_1, .int .i64 a0_2] 40 (0, 0)) (qdc2_5 BK148) hb)
      have n9_ := Aside0.mk (blk_below (g := gb165) (o := .cells #[.slice Ao23 t157.length co23, .slice Ao26 t160.length co26, .int .i64 t163] 25 (0, 0)) (qdc2_5 BK165) hb)
      have n10_ := Aside0.mk (blk_below (g := gb173) (o := .cells #[.slice Ao30 t166.length co30, .slice Ao34 t169.length co34, .int .i64 t172] 25 (0, 0)) (qdc2_5 BK173) hb)
      have n11_ := Aside0.mk (blk_below (g := gb182) (o := .cells #[.slice Ao37 t174.length co37, .slice Ao42 t177.length co42, .int .i64 t180] 25 (0, 0)) (qdc2_5 BK182) hb)
      have n12_ := Aside0.mk (below_step (qdc2_7 HB GE148 GE165 GE173 GE182) hb)
      clear HO_166000
      clear HO_166001
      clear HO_174000
      clear HO_174001
      clear HO_183000
      clear HO_183001
      clear HO186
      clear HO189
      clear BK148
      clear BK165
      clear BK173
      clear BK182
      clear HB
      have HO_166000 := n0_
      have HO_166001 := n1_
      have HO_174000 := n2_
      have HO_174001 := n3_
      have HO_183000 := n4_
      have HO_183001 := n5_
      have HO186 := n6_
      have HO189 := n7_
      have BK148 := n8_
      have BK165 := n9_
      have BK173 := n10_
      have BK182 := n11_
      have HB := n12_
      clear n0_ n1_ n2_ n3_ n4_ n5_ n6_ n7_ n8_ n9_ n10_ n11_ n12_
      (try clear hb)
      (try clear hb2)
      (try clear hk)
      (try clear hi)
      refine hK.out _ _ ⟨(blk_cell BK173.out 0).trans rfl, (blk_cell BK173.out 1).trans rfl, (blk_cell BK173.out 2).trans rfl, (blk_cell BK148.out 0).trans rfl, (blk_cell BK148.out 1).trans rfl, (blk_cell BK148.out 2).trans rfl⟩ (fun hHeld => ?_)
      clear hK K
      refine norm_ (a' := ?_) ?_ ?_
      rotate_left
      ·show Act.put _ (some 52) _ = _
       simp only [Act.put, List.setIfInBounds_toArray, List.set_cons_zero, List.set_cons_succ, i64_w, i32_w]
       rfl
      refine pure_ (i := 4) (N := some 53) (v := ?_) (a' := ?_) #[true, true, true, true, true] rfl rfl qdc2_28 (fun _ _ _ h => h) (Or.inl ⟨by rfl, ?_⟩) ?_ ?_
      rotate_left
      ·intro w'
       go_simp
       with_reducible rfl
      rotate_left
      ·simp only [Act.put, List.setIfInBounds_toArray, List.set_cons_zero, List.set_cons_succ, i64_w, i32_w]
       rfl
      refine done_ qdc2_28 ?_
      have hnb72 := NB173_148.out
      have hnc72 := NB148_173.out
      have hnb73 := NB173_165.out
      have hnc73 := NB165_173.out
      have hnb74 := NB173_182.out
      have hnc74 := NB182_173.out
      have hcz75_0 : w71.cell? ⟨gb173, 0, none⟩ = some (.slice Ao30 t166.length co30) := (blk_cell BK173.out 0).trans rfl
      have hcz75_1 : w71.cell? ⟨gb173, 1, none⟩ = some (.slice Ao34 t169.length co34) := (blk_cell BK173.out 1).trans rfl
      have hcz75_2 : w71.cell? ⟨gb173, 2, none⟩ = some (.int .i64 t172) := (blk_cell BK173.out 2).trans rfl
      have hfz75_0 := blk_frozen BK173.out 0
      have hfz75_1 := blk_frozen BK173.out 1
      have hfz75_2 := blk_frozen BK173.out 2
      go_upto_region 14 with (first | ((with_reducible refine gate_callee (f := 14) rfl ?_); refine goesL_ (some 56) rfl rfl Try.func14 qdc2_28 rfl #[.agg #[.slice Ao30 t166.length co30, .slice Ao34 t169.length co34, .int .i64 t172], .int .i64 1] rfl qdc2_10 ?_; (with_reducible refine (laws_markDict.calls kj12 (fun k_ => some k_ = (.slice Ao30 t166.length co30 : Value).ownBlock) (.slice Ao30 t166.length co30) t166 (fun k_ => some k_ = (.slice Ao34 t169.length co34 : Value).ownBlock) (.slice Ao34 t169.length co34) t169 t172 1 t192 t193 t194 w _ ?side1 ?side2 ?side3 A65.out).mono ?_); (case side1 => exact (qdc2_7 HB GE148 GE165 GE173 GE182)); (case side2 => exact Kd.R_tight rfl HO_174000.out); (case side3 => exact Kd.R_tight rfl HO_174001.out); rintro e w76 ⟨rfl, hy0, hy1, hb, hkp⟩; refine ⟨_, rfl, ?_⟩; have n0_ := Aside0.mk (Kd.R_mono (ok' := fun k_ => some k_ ≠ (.slice Ao30 t166.length co30 : Value).ownBlock ∧ some k_ ≠ (.slice Ao37 t174.length co37 : Value).ownBlock ∧ some k_ ≠ (.slice Ao69 t184.length co69 : Value).ownBlock) (Kd.R_keptB ((Kd.R_apart' HO_166000.out (Kd.R_typed HO_174001.out) (by decide))) hkp (fun k_ hk_ hs_ => Or.elim hs_ (fun e_ => (hk_.1.1.1) e_) (fun e_ => (hk_.2) e_))) (fun k_ hk_ => ⟨hk_.1.1.1.1, hk_.1.1.1.2, hk_.1.1.2⟩)); have n1_ := Aside0.mk (Kd.R_mono (ok' := fun k_ => some k_ ≠ (.slice Ao34 t169.length co34 : Value).ownBlock ∧ some k_ ≠ (.slice Ao42 t177.length co42 : Value).ownBlock ∧ some k_ ≠ (.slice Ao70 t187.length co70 : Value).ownBlock) (Kd.R_keptB ((Kd.R_apart' HO_166001.out (Kd.R_typed HO_174000.out) (by decide))) hkp (fun k_ hk_ hs_ => Or.elim hs_ (fun e_ => (hk_.2) e_) (fun e_ => (hk_.1.1.1) e_))) (fun k_ hk_ => ⟨hk_.1.1.1.1, hk_.1.1.1.2, hk_.1.1.2⟩)); have n2_ := Aside0.mk (Kd.R_reok rfl hy0 (fun k_ e_ => HO_174000.out.1 k_ e_)); have n3_ := Aside0.mk (Kd.R_reok rfl hy1 (fun k_ e_ => HO_174001.out.1 k_ e_)); have n4_ := Aside0.mk (Kd.R_mono (ok' := fun k_ => some k_ ≠ (.slice Ao23 t157.length co23 : Value).ownBlock ∧ some k_ ≠ (.slice Ao30 t166.length co30 : Value).ownBlock ∧ some k_ ≠ (.slice Ao69 t184.length co69 : Value).ownBlock) (Kd.R_keptB ((Kd.R_apart' HO_183000.out (Kd.R_typed HO_174001.out) (by decide))) hkp (fun k_ hk_ hs_ => Or.elim hs_ (fun e_ => (hk_.1.1.2) e_) (fun e_ => (hk_.2) e_))) (fun k_ hk_ => ⟨hk_.1.1.1.1, hk_.1.1.1.2, hk_.1.1.2⟩)); have n5_ := Aside0.mk (Kd.R_mono (ok' := fun k_ => some k_ ≠ (.slice Ao26 t160.length co26 : Value).ownBlock ∧ some k_ ≠ (.slice Ao34 t169.length co34 : Value).ownBlock ∧ some k_ ≠ (.slice Ao70 t187.length co70 : Value).ownBlock) (Kd.R_keptB ((Kd.R_apart' HO_183001.out (Kd.R_typed HO_174000.out) (by decide))) hkp (fun k_ hk_ hs_ => Or.elim hs_ (fun e_ => (hk_.2) e_) (fun e_ => (hk_.1.1.2) e_))) (fun k_ hk_ => ⟨hk_.1.1.1.1, hk_.1.1.1.2, hk_.1.1.2⟩)); have n6_ := Aside0.mk (blk_kept (qdc2_5 BK148) hkp (fun hs_ => Or.elim hs_ (fun e_ => (fun e_ => (Kd.R_ne HO_174000.out BK148.out (by decide)) e_) e_) (fun e_ => (fun e_ => (Kd.R_ne HO_174001.out BK148.out (by decide)) e_) e_))); have n7_ := Aside0.mk (blk_kept (qdc2_5 BK165) hkp (fun hs_ => Or.elim hs_ (fun e_ => (fun e_ => (Kd.R_ne HO_174000.out BK165.out (by decide)) e_) e_) (fun e_ => (fun e_ => (Kd.R_ne HO_174001.out BK165.out (by decide)) e_) e_))); have n8_ := Aside0.mk (blk_kept (qdc2_5 BK173) hkp (fun hs_ => Or.elim hs_ (fun e_ => (fun e_ => (Kd.R_ne HO_174000.out BK173.out (by decide)) e_) e_) (fun e_ => (fun e_ => (Kd.R_ne HO_174001.out BK173.out (by decide)) e_) e_))); have n9_ := Aside0.mk (blk_kept (qdc2_5 BK182) hkp (fun hs_ => Or.elim hs_ (fun e_ => (fun e_ => (Kd.R_ne HO_174000.out BK182.out (by decide)) e_) e_) (fun e_ => (fun e_ => (Kd.R_ne HO_174001.out BK182.out (by decide)) e_) e_))); have n10_ := Aside0.mk (Kd.R_mono (ok' := fun k_ => some k_ ≠ (.slice Ao23 t157.length co23 : Value).ownBlock ∧ some k_ ≠ (.slice Ao30 t166.length co30 : Value).ownBlock ∧ some k_ ≠ (.slice Ao37 t174.length co37 : Value).ownBlock) (Kd.R_keptB ((Kd.R_apart' HO186.out (Kd.R_typed HO_174001.out) (by decide))) hkp (fun k_ hk_ hs_ => Or.elim hs_ (fun e_ => (hk_.1.1.2) e_) (fun e_ => (hk_.2) e_))) (fun k_ hk_ => ⟨hk_.1.1.1.1.2, hk_.1.1.1.2, hk_.1.1.2⟩)); have n11_ := Aside0.mk (Kd.R_mono (ok' := fun k_ => some k_ ≠ (.slice Ao26 t160.length co26 : Value).ownBlock ∧ some k_ ≠ (.slice Ao34 t169.length co34 : Value).ownBlock ∧ some k_ ≠ (.slice Ao42 t177.length co42 : Value).ownBlock) (Kd.R_keptB ((Kd.R_apart' HO189.out (Kd.R_typed HO_174000.out) (by decide))) hkp (fun k_ hk_ hs_ => Or.elim hs_ (fun e_ => (hk_.2) e_) (fun e_ => (hk_.1.1.2) e_))) (fun k_ hk_ => ⟨hk_.1.1.1.1.2, hk_.1.1.1.2, hk_.1.1.2⟩)); have n12_ := Aside0.mk (hb); clear HO_166000; clear HO_166001; clear HO_174000; clear HO_174001; clear HO_183000; clear HO_183001; clear BK148; clear BK165; clear BK173; clear BK182; clear HO186; clear HO189; clear HB; have HO_166000 := n0_; have HO_166001 := n1_; have HO_174000 := n2_; have HO_174001 := n3_; have HO_183000 := n4_; have HO_183001 := n5_; have BK148 := n6_; have BK165 := n7_; have BK173 := n8_; have BK182 := n9_; have HO186 := n10_; have HO189 := n11_; have HB := n12_; clear n0_ n1_ n2_ n3_ n4_ n5_ n6_ n7_ n8_ n9_ n10_ n11_ n12_; (try clear hb); (try clear hkp); (try clear hy0); (try clear hy1)))
      (try simp only [Act.put, List.setIfInBounds_toArray, List.set_cons_zero, List.set_cons_succ])
      go_cut [69] (fun v69 wc => ∃ (kq : Nat) (x69_65 : Bool), v69 = .bool x69_65 ∧ Aside0 (laws_FnExactDictCut.j1 kq a1 a2 t164 x69_65 l0_0 l0_1 a0_2 t157 t160 t163 t174 t177 t180 = some r) ∧ Aside0 (kq ≤ kj12) ∧ Aside0 (Kd.R (Kd.int .i64) 2 wc w.heap.size (fun k_ => some k_ ≠ ((.slice Ao30 t166.length co30) : Value).ownBlock ∧ some k_ ≠ ((.slice Ao37 t174.length co37) : Value).ownBlock) (.slice Ao23 t157.length co23) t157) ∧ Aside0 (Kd.R k62 62 wc w.heap.size (fun k_ => some k_ ≠ ((.slice Ao34 t169.length co34) : Value).ownBlock ∧ some k_ ≠ ((.slice Ao42 t177.length co42) : Value).ownBlock) (.slice Ao26 t160.length co26) t160) ∧ Aside0 (Kd.R (Kd.int .i64) 2 wc w.heap.size (fun k_ => some k_ ≠ ((.slice Ao23 t157.length co23) : Value).ownBlock ∧ some k_ ≠ ((.slice Ao37 t174.length co37) : Value).ownBlock) (.slice Ao30 t166.length co30) t193) ∧ Aside0 (Kd.R k62 62 wc w.heap.size (fun k_ => some k_ ≠ ((.slice Ao26 t160.length co26) : Value).ownBlock ∧ some k_ ≠ ((.slice Ao42 t177.length co42) : Value).ownBlock) (.slice Ao34 t169.length co34) t194) ∧ Aside0 (Kd.R (Kd.int .i64) 2 wc w.heap.size (fun k_ => some k_ ≠ ((.slice Ao23 t157.length co23) : Value).ownBlock ∧ some k_ ≠ ((.slice Ao30 t166.length co30) : Value).ownBlock) (.slice Ao37 t174.length co37) t174) ∧ Aside0 (Kd.R k62 62 wc w.heap.size (fun k_ => some k_ ≠ ((.slice Ao26 t160.length co26) : Value).ownBlock ∧ some k_ ≠ ((.slice Ao34 t169.length co34) : Value).ownBlock) (.slice Ao42 t177.length co42) t177) ∧ Aside0 (wc.heap[gb148]? = some (.cells #[(.slice A0_0 l0_0.length c0_0), (.slice A0_1 l0_1.length c0_1), .int .i64 a0_2] 40 (0, 0))) ∧ Aside0 (wc.heap[gb165]? = some (.cells #[(.slice Ao23 t157.length co23), (.slice Ao26 t160.length co26), .int .i64 t163] 25 (0, 0))) ∧ Aside0 (wc.heap[gb173]? = some (.cells #[(.slice Ao30 t166.length co30), (.slice Ao34 t169.length co34), .int .i64 t172] 25 (0, 0))) ∧ Aside0 (wc.heap[gb182]? = some (.cells #[(.slice Ao37 t174.length co37), (.slice Ao42 t177.length co42), .int .i64 t180] 25 (0, 0))) ∧ Aside0 (Below w.heap.size w wc))
      case first =>
       have H := HC66.out
       clear HC66
       by_cases c77 : t192 < 0
       ·rw [if_pos c77] at H
        have c77b0 : decide (t192 < 0) = true := decide_eq_true c77
        clear c77
        (first | rw [c77b0] | (simp only [i64_w, i32_w]; rw [c77b0]) | skip)
        have H' := Aside0.mk H
        clear H
        go_wp2
        go_meet
        case rel => exact ⟨_, (true), qdc2_27, H', ⟨by have := HJ12.out; first | omega | exact Nat.le_refl _⟩, ⟨by (with_reducible repeat (first | apply Kd.R_alloc | apply Kd.R_drewN | apply Kd.R_drew)); exact Kd.R_mono HO_166000.out (fun _ hk => ⟨hk.1, hk.2.1⟩)⟩, ⟨by (with_reducible repeat (first | apply Kd.R_alloc | apply Kd.R_drewN | apply Kd.R_drew)); exact Kd.R_mono HO_166001.out (fun _ hk => ⟨hk.1, hk.2.1⟩)⟩, ⟨by (with_reducible repeat (first | apply Kd.R_alloc | apply Kd.R_drewN | apply Kd.R_drew)); exact Kd.R_mono HO_174000.out (fun _ hk => ⟨hk.1.1, hk.1.2⟩)⟩, ⟨by (with_reducible repeat (first | apply Kd.R_alloc | apply Kd.R_drewN | apply Kd.R_drew)); exact Kd.R_mono HO_174001.out (fun _ hk => ⟨hk.1.1, hk.1.2⟩)⟩, ⟨by (with_reducible repeat (first | apply Kd.R_alloc | apply Kd.R_drewN | apply Kd.R_drew)); exact Kd.R_mono HO_183000.out (fun _ hk => ⟨hk.1, hk.2.1⟩)⟩, ⟨by (with_reducible repeat (first | apply Kd.R_alloc | apply Kd.R_drewN | apply Kd.R_drew)); exact Kd.R_mono HO_183001.out (fun _ hk => ⟨hk.1, hk.2.1⟩)⟩, ⟨by (with_reducible repeat (first | refine blk_drewN ?_ _ | refine blk_drew ?_ | refine blk_alloc ?_ _)); exact BK148.out⟩, ⟨by (with_reducible repeat (first | refine blk_drewN ?_ _ | refine blk_drew ?_ | refine blk_alloc ?_ _)); exact BK165.out⟩, ⟨by (with_reducible repeat (first | refine blk_drewN ?_ _ | refine blk_drew ?_ | refine blk_alloc ?_ _)); exact BK173.out⟩, ⟨by (with_reducible repeat (first | refine blk_drewN ?_ _ | refine blk_drew ?_ | refine blk_alloc ?_ _)); exact BK182.out⟩, ⟨by repeat (first | (with_reducible first | exact HB.out | apply below_alloc | apply pw_below_drewN | apply below_drew1 | refine below_set ?_ GE148.out | refine below_set ?_ GE165.out | refine below_set ?_ GE173.out | refine below_set ?_ GE182.out) | exact HB.out)⟩⟩
       ·rw [if_neg c77] at H
        have c77b0 : decide (t192 < 0) = false := decide_eq_false c77
        clear c77
        (first | rw [c77b0] | (simp only [i64_w, i32_w]; rw [c77b0]) | skip)
        replace H := Option.bind_eq_some_iff.mp H
        obtain ⟨t195, A780, H⟩ := H
        replace H : (if t195 = true then (laws_FnExactDictCut.j1 kj12 a1 a2 t164 (t181 != t164) l0_0 l0_1 a0_2 t157 t160 t163 t174 t177 t180) else (laws_FnExactDictCut.j1 kj12 a1 a2 t164 true l0_0 l0_1 a0_2 t157 t160 t163 t174 t177 t180)) = some r := H
        have A78 := Aside0.mk A780
        clear A780
        by_cases c79 : t195 = true
        ·subst c79
         have H1 : (laws_FnExactDictCut.j1 kj12 a1 a2 t164 (t181 != t164) l0_0 l0_1 a0_2 t157 t160 t163 t174 t177 t180) = some r := by rw [if_pos rfl] at H; exact H
         clear H
         have H := H1
         clear H1
         have H' := Aside0.mk H
         clear H
         have hnb80 := NB182_148.out
         have hnc80 := NB148_182.out
         have hnb81 := NB182_165.out
         have hnc81 := NB165_182.out
         have hnb82 := NB182_173.out
         have hnc82 := NB173_182.out
         have hcz83_0 : w76.cell? ⟨gb182, 0, none⟩ = some (.slice Ao37 t174.length co37) := (blk_cell BK182.out 0).trans rfl
         have hcz83_1 : w76.cell? ⟨gb182, 1, none⟩ = some (.slice Ao42 t177.length co42) := (blk_cell BK182.out 1).trans rfl
         have hcz83_2 : w76.cell? ⟨gb182, 2, none⟩ = some (.int .i64 t180) := (blk_cell BK182.out 2).trans rfl
         have hfz83_0 := blk_frozen BK182.out 0
         have hfz83_1 := blk_frozen BK182.out 1
         have hfz83_2 := blk_frozen BK182.out 2
         have hnb84 := NB165_148.out
         have hnc84 := NB148_165.out
         have hnb85 := NB165_173.out
         have hnc85 := NB173_165.out
         have hcz86_0 : w76.cell? ⟨gb165, 0, none⟩ = some (.slice Ao23 t157.length co23) := (blk_cell BK165.out 0).trans rfl
         have hcz86_1 : w76.cell? ⟨gb165, 1, none⟩ = some (.slice Ao26 t160.length co26) := (blk_cell BK165.out 1).trans rfl
         have hcz86_2 : w76.cell? ⟨gb165, 2, none⟩ = some (.int .i64 t163) := (blk_cell BK165.out 2).trans rfl
         have hfz86_0 := blk_frozen BK165.out 0
         have hfz86_1 := blk_frozen BK165.out 1
         have hfz86_2 := blk_frozen BK165.out 2
         go_wp2_with (first | (go_at_call 13; (with_reducible refine (laws_eqDict.calls kj12 _ _ t174 _ _ t177 t180 _ _ t157 _ _ t160 t163 true _ ?side1 ?side2 ?side3 ?side4 ?side5 ?side6 ?side7 ?side8 A78.out).mono ?_); (case side1 => exact (qdc2_8 HO_183000)); (case side2 => exact (Kd.R_reads' HO_183000.out).2.1); (case side3 => exact (qdc2_8 HO_183001)); (case side4 => exact (Kd.R_reads' HO_183001.out).2.1); (case side5 => exact (qdc2_8 HO_166000)); (case side6 => exact (Kd.R_reads' HO_166000.out).2.1); (case side7 => exact (qdc2_8 HO_166001)); (case side8 => exact (Kd.R_reads' HO_166001.out).2.1); rintro e w87 ⟨rfl, hb⟩; have n0_ := Aside0.mk (Kd.R_below (qdc2_2 HO_166000) hb); have n1_ := Aside0.mk (Kd.R_below (qdc2_2 HO_166001) hb); have n2_ := Aside0.mk (Kd.R_below (qdc2_2 HO_174000) hb); have n3_ := Aside0.mk (Kd.R_below (qdc2_2 HO_174001) hb); have n4_ := Aside0.mk (Kd.R_below (qdc2_2 HO_183000) hb); have n5_ := Aside0.mk (Kd.R_below (qdc2_2 HO_183001) hb); have n6_ := Aside0.mk (Kd.R_below (qdc2_2 HO186) hb); have n7_ := Aside0.mk (Kd.R_below (qdc2_2 HO189) hb); have n8_ := Aside0.mk (blk_below (g := gb148) (o := .cells #[.slice A0_0 l0_0.length c0_0, .slice A0_1 l0_1.length c0_1, .int .i64 a0_2] 40 (0, 0)) (qdc2_5 BK148) hb); have n9_ := Aside0.mk (blk_below (g := gb165) (o := .cells #[.slice Ao23 t157.length co23, .slice Ao26 t160.length co26, .int .i64 t163] 25 (0, 0)) (qdc2_5 BK165) hb); have n10_ := Aside0.mk (blk_below (g := gb173) (o := .cells #[.slice Ao30 t166.length co30, .slice Ao34 t169.length co34, .int .i64 t172] 25 (0, 0)) (qdc2_5 BK173) hb); have n11_ := Aside0.mk (blk_below (g := gb182) (o := .cells #[.slice Ao37 t174.length co37, .slice Ao42 t177.length co42, .int .i64 t180] 25 (0, 0)) (qdc2_5 BK182) hb); have n12_ := Aside0.mk (below_step (qdc2_7 HB GE148 GE165 GE173 GE182) hb); clear HO_166000; clear HO_166001; clear HO_174000; clear HO_174001; clear HO_183000; clear HO_183001; clear HO186; clear HO189; clear BK148; clear BK165; clear BK173; clear BK182; clear HB; have HO_166000 := n0_; have HO_166001 := n1_; have HO_174000 := n2_; have HO_174001 := n3_; have HO_183000 := n4_; have HO_183001 := n5_; have HO186 := n6_; have HO189 := n7_; have BK148 := n8_; have BK165 := n9_; have BK173 := n10_; have BK182 := n11_; have HB := n12_; clear n0_ n1_ n2_ n3_ n4_ n5_ n6_ n7_ n8_ n9_ n10_ n11_ n12_; (try clear hb); (try clear hb2); (try clear hk); (try clear hi)))
         go_meet
         case rel => exact ⟨_, ((t181 != t164)), qdc2_27, H', ⟨by have := HJ12.out; first | omega | exact Nat.le_refl _⟩, ⟨by (with_reducible repeat (first | apply Kd.R_alloc | apply Kd.R_drewN | apply Kd.R_drew)); exact Kd.R_mono HO_166000.out (fun _ hk => ⟨hk.1, hk.2.1⟩)⟩, ⟨by (with_reducible repeat (first | apply Kd.R_alloc | apply Kd.R_drewN | apply Kd.R_drew)); exact Kd.R_mono HO_166001.out (fun _ hk => ⟨hk.1, hk.2.1⟩)⟩, ⟨by (with_reducible repeat (first | apply Kd.R_alloc | apply Kd.R_drewN | apply Kd.R_drew)); exact Kd.R_mono HO_174000.out (fun _ hk => ⟨hk.1.1, hk.1.2⟩)⟩, ⟨by (with_reducible repeat (first | apply Kd.R_alloc | apply Kd.R_drewN | apply Kd.R_drew)); exact Kd.R_mono HO_174001.out (fun _ hk => ⟨hk.1.1, hk.1.2⟩)⟩, ⟨by (with_reducible repeat (first | apply Kd.R_alloc | apply Kd.R_drewN | apply Kd.R_drew)); exact Kd.R_mono HO_183000.out (fun _ hk => ⟨hk.1, hk.2.1⟩)⟩, ⟨by (with_reducible repeat (first | apply Kd.R_alloc | apply Kd.R_drewN | apply Kd.R_drew)); exact Kd.R_mono HO_183001.out (fun _ hk => ⟨hk.1, hk.2.1⟩)⟩, ⟨by (with_reducible repeat (first | refine blk_drewN ?_ _ | refine blk_drew ?_ | refine blk_alloc ?_ _)); exact BK148.out⟩, ⟨by (with_reducible repeat (first | refine blk_drewN ?_ _ | refine blk_drew ?_ | refine blk_alloc ?_ _)); exact BK165.out⟩, ⟨by (with_reducible repeat (first | refine blk_drewN ?_ _ | refine blk_drew ?_ | refine blk_alloc ?_ _)); exact BK173.out⟩, ⟨by (with_reducible repeat (first | refine blk_drewN ?_ _ | refine blk_drew ?_ | refine blk_alloc ?_ _)); exact BK182.out⟩, ⟨by repeat (first | (with_reducible first | exact HB.out | apply below_alloc | apply pw_below_drewN | apply below_drew1 | refine below_set ?_ GE148.out | refine below_set ?_ GE165.out | refine below_set ?_ GE173.out | refine below_set ?_ GE182.out) | exact HB.out)⟩⟩
        ·replace c79 := Bool.eq_false_iff.mpr c79
         subst c79
         have H1 : (laws_FnExactDictCut.j1 kj12 a1 a2 t164 true l0_0 l0_1 a0_2 t157 t160 t163 t174 t177 t180) = some r := by rw [if_neg (show ¬ (false = true) by decide)] at H; exact H
         clear H
         have H := H1
         clear H1
         have H' := Aside0.mk H
         clear H
         have hnb88 := NB182_148.out
         have hnc88 := NB148_182.out
         have hnb89 := NB182_165.out
         have hnc89 := NB165_182.out
         have hnb90 := NB182_173.out
         have hnc90 := NB173_182.out
         have hcz91_0 : w76.cell? ⟨gb182, 0, none⟩ = some (.slice Ao37 t174.length co37) := (blk_cell BK182.out 0).trans rfl
         have hcz91_1 : w76.cell? ⟨gb182, 1, none⟩ = some (.slice Ao42 t177.length co42) := (blk_cell BK182.out 1).trans rfl
         have hcz91_2 : w76.cell? ⟨gb182, 2, none⟩ = some (.int .i64 t180) := (blk_cell BK182.out 2).trans rfl
         have hfz91_0 := blk_frozen BK182.out 0
         have hfz91_1 := blk_frozen BK182.out 1
         have hfz91_2 := blk_frozen BK182.out 2
         have hnb92 := NB165_148.out
         have hnc92 := NB148_165.out
         have hnb93 := NB165_173.out
         have hnc93 := NB173_165.out
         have hcz94_0 : w76.cell? ⟨gb165, 0, none⟩ = some (.slice Ao23 t157.length co23) := (blk_cell BK165.out 0).trans rfl
         have hcz94_1 : w76.cell? ⟨gb165, 1, none⟩ = some (.slice Ao26 t160.length co26) := (blk_cell BK165.out 1).trans rfl
         have hcz94_2 : w76.cell? ⟨gb165, 2, none⟩ = some (.int .i64 t163) := (blk_cell BK165.out 2).trans rfl
         have hfz94_0 := blk_frozen BK165.out 0
         have hfz94_1 := blk_frozen BK165.out 1
         have hfz94_2 := blk_frozen BK165.out 2
         go_wp2_with (first | (go_at_call 13; (with_reducible refine (laws_eqDict.calls kj12 _ _ t174 _ _ t177 t180 _ _ t157 _ _ t160 t163 false _ ?side1 ?side2 ?side3 ?side4 ?side5 ?side6 ?side7 ?side8 A78.out).mono ?_); (case side1 => exact (qdc2_8 HO_183000)); (case side2 => exact (Kd.R_reads' HO_183000.out).2.1); (case side3 => exact (qdc2_8 HO_183001)); (case side4 => exact (Kd.R_reads' HO_183001.out).2.1); (case side5 => exact (qdc2_8 HO_166000)); (case side6 => exact (Kd.R_reads' HO_166000.out).2.1); (case side7 => exact (qdc2_8 HO_166001)); (case side8 => exact (Kd.R_reads' HO_166001.out).2.1); rintro e w95 ⟨rfl, hb⟩; have n0_ := Aside0.mk (Kd.R_below (qdc2_2 HO_166000) hb); have n1_ := Aside0.mk (Kd.R_below (qdc2_2 HO_166001) hb); have n2_ := Aside0.mk (Kd.R_below (qdc2_2 HO_174000) hb); have n3_ := Aside0.mk (Kd.R_below (qdc2_2 HO_174001) hb); have n4_ := Aside0.mk (Kd.R_below (qdc2_2 HO_183000) hb); have n5_ := Aside0.mk (Kd.R_below (qdc2_2 HO_183001) hb); have n6_ := Aside0.mk (Kd.R_below (qdc2_2 HO186) hb); have n7_ := Aside0.mk (Kd.R_below (qdc2_2 HO189) hb); have n8_ := Aside0.mk (blk_below (g := gb148) (o := .cells #[.slice A0_0 l0_0.length c0_0, .slice A0_1 l0_1.length c0_1, .int .i64 a0_2] 40 (0, 0)) (qdc2_5 BK148) hb); have n9_ := Aside0.mk (blk_below (g := gb165) (o := .cells #[.slice Ao23 t157.length co23, .slice Ao26 t160.length co26, .int .i64 t163] 25 (0, 0)) (qdc2_5 BK165) hb); have n10_ := Aside0.mk (blk_below (g := gb173) (o := .cells #[.slice Ao30 t166.length co30, .slice Ao34 t169.length co34, .int .i64 t172] 25 (0, 0)) (qdc2_5 BK173) hb); have n11_ := Aside0.mk (blk_below (g := gb182) (o := .cells #[.slice Ao37 t174.length co37, .slice Ao42 t177.length co42, .int .i64 t180] 25 (0, 0)) (qdc2_5 BK182) hb); have n12_ := Aside0.mk (below_step (qdc2_7 HB GE148 GE165 GE173 GE182) hb); clear HO_166000; clear HO_166001; clear HO_174000; clear HO_174001; clear HO_183000; clear HO_183001; clear HO186; clear HO189; clear BK148; clear BK165; clear BK173; clear BK182; clear HB; have HO_166000 := n0_; have HO_166001 := n1_; have HO_174000 := n2_; have HO_174001 := n3_; have HO_183000 := n4_; have HO_183001 := n5_; have HO186 := n6_; have HO189 := n7_; have BK148 := n8_; have BK165 := n9_; have BK173 := n10_; have BK182 := n11_; have HB := n12_; clear n0_ n1_ n2_ n3_ n4_ n5_ n6_ n7_ n8_ n9_ n10_ n11_ n12_; (try clear hb); (try clear hb2); (try clear hk); (try clear hi)))
         go_meet
         case rel => exact ⟨_, (true), qdc2_27, H', ⟨by have := HJ12.out; first | omega | exact Nat.le_refl _⟩, ⟨by (with_reducible repeat (first | apply Kd.R_alloc | apply Kd.R_drewN | apply Kd.R_drew)); exact Kd.R_mono HO_166000.out (fun _ hk => ⟨hk.1, hk.2.1⟩)⟩, ⟨by (with_reducible repeat (first | apply Kd.R_alloc | apply Kd.R_drewN | apply Kd.R_drew)); exact Kd.R_mono HO_166001.out (fun _ hk => ⟨hk.1, hk.2.1⟩)⟩, ⟨by (with_reducible repeat (first | apply Kd.R_alloc | apply Kd.R_drewN | apply Kd.R_drew)); exact Kd.R_mono HO_174000.out (fun _ hk => ⟨hk.1.1, hk.1.2⟩)⟩, ⟨by (with_reducible repeat (first | apply Kd.R_alloc | apply Kd.R_drewN | apply Kd.R_drew)); exact Kd.R_mono HO_174001.out (fun _ hk => ⟨hk.1.1, hk.1.2⟩)⟩, ⟨by (with_reducible repeat (first | apply Kd.R_alloc | apply Kd.R_drewN | apply Kd.R_drew)); exact Kd.R_mono HO_183000.out (fun _ hk => ⟨hk.1, hk.2.1⟩)⟩, ⟨by (with_reducible repeat (first | apply Kd.R_alloc | apply Kd.R_drewN | apply Kd.R_drew)); exact Kd.R_mono HO_183001.out (fun _ hk => ⟨hk.1, hk.2.1⟩)⟩, ⟨by (with_reducible repeat (first | refine blk_drewN ?_ _ | refine blk_drew ?_ | refine blk_alloc ?_ _)); exact BK148.out⟩, ⟨by (with_reducible repeat (first | refine blk_drewN ?_ _ | refine blk_drew ?_ | refine blk_alloc ?_ _)); exact BK165.out⟩, ⟨by (with_reducible repeat (first | refine blk_drewN ?_ _ | refine blk_drew ?_ | refine blk_alloc ?_ _)); exact BK173.out⟩, ⟨by (with_reducible repeat (first | refine blk_drewN ?_ _ | refine blk_drew ?_ | refine blk_alloc ?_ _)); exact BK182.out⟩, ⟨by repeat (first | (with_reducible first | exact HB.out | apply below_alloc | apply pw_below_drewN | apply below_drew1 | refine below_set ?_ GE148.out | refine below_set ?_ GE165.out | refine below_set ?_ GE173.out | refine below_set ?_ GE182.out) | exact HB.out)⟩⟩
      case rest =>
       clear HC66
       try clear c1
       try clear c2
       try clear p2
       try clear c3
       try clear c4
       try clear c5
       try clear c5b0
       try clear c6
       try clear c7
       try clear c8
       try clear c9
       try clear c13
       try clear c14
       try clear c19
       try clear c21
       try clear c24
       try clear c31
       try clear c32
       try clear c33
       try clear c34
       try clear c38
       try clear c39
       try clear c40
       try clear c44
       try clear c45
       try clear c46
       try clear c47
       try clear c49
       try clear c50
       try clear c53
       try clear c54
       try clear c55
       try clear c57
       try clear c58
       try clear c61
       try clear c64
       try clear c72
       try clear c73
       try clear c74
       try clear c77
       try clear c77b0
       try clear c79
       try clear c80
       try clear c81
       try clear c82
       try clear c84
       try clear c85
       try clear c88
       try clear c89
       try clear c90
       try clear c92
       try clear c93
       try clear hcz15_0
       try clear hcz15_1
       try clear hcz15_2
       try clear hcz17_0
       try clear hcz17_1
       try clear hcz17_2
       try clear hcz25_0
       try clear hcz25_1
       try clear hcz25_2
       try clear hcz27_0
       try clear hcz27_1
       try clear hcz27_2
       try clear hcz33_0
       try clear hcz33_1
       try clear hcz33_2
       try clear hcz41_0
       try clear hcz41_1
       try clear hcz41_2
       try clear hcz48_0
       try clear hcz48_1
       try clear hcz48_2
       try clear hcz51_0
       try clear hcz51_1
       try clear hcz51_2
       try clear hcz56_0
       try clear hcz56_1
       try clear hcz56_2
       try clear hcz59_0
       try clear hcz59_1
       try clear hcz59_2
       try clear hcz75_0
       try clear hcz75_1
       try clear hcz75_2
       try clear hcz7_0
       try clear hcz7_1
       try clear hcz7_2
       try clear hcz83_0
       try clear hcz83_1
       try clear hcz83_2
       try clear hcz86_0
       try clear hcz86_1
       try clear hcz86_2
       try clear hcz91_0
       try clear hcz91_1
       try clear hcz91_2
       try clear hcz94_0
       try clear hcz94_1
       try clear hcz94_2
       try clear hfz15_0
       try clear hfz15_1
       try clear hfz15_2
       try clear hfz17_0
       try clear hfz17_1
       try clear hfz17_2
       try clear hfz25_0
       try clear hfz25_1
       try clear hfz25_2
       try clear hfz27_0
       try clear hfz27_1
       try clear hfz27_2
       try clear hfz33_0
       try clear hfz33_1
       try clear hfz33_2
       try clear hfz41_0
       try clear hfz41_1
       try clear hfz41_2
       try clear hfz48_0
       try clear hfz48_1
       try clear hfz48_2
       try clear hfz51_0
       try clear hfz51_1
       try clear hfz51_2
       try clear hfz56_0
       try clear hfz56_1
       try clear hfz56_2
       try clear hfz59_0
       try clear hfz59_1
       try clear hfz59_2
       try clear hfz75_0
       try clear hfz75_1
       try clear hfz75_2
       try clear hfz7_0
       try clear hfz7_1
       try clear hfz7_2
       try clear hfz83_0
       try clear hfz83_1
       try clear hfz83_2
       try clear hfz86_0
       try clear hfz86_1
       try clear hfz86_2
       try clear hfz91_0
       try clear hfz91_1
       try clear hfz91_2
       try clear hfz94_0
       try clear hfz94_1
       try clear hfz94_2
       try clear p2
       obtain ⟨kq, x69_65, rfl, HA, HJ65, HO_166000, HO_166001, HO_174000, HO_174001, HO_183000, HO_183001, BK148, BK165, BK173, BK182, HB⟩ := hcut
       have hl174000_65 := (Kd.R_reads' HO_174000.out).1
       rw [hl174000_65] at HO_174000
       (try simp only [hl174000_65])
       (try simp only [hl174000_65] at BK148)
       (try simp only [hl174000_65] at BK165)
       (try simp only [hl174000_65] at BK173)
       (try simp only [hl174000_65] at BK182)
       (try simp only [hl174000_65] at HO_166000)
       (try simp only [hl174000_65] at HO_166001)
       (try simp only [hl174000_65] at HO_174001)
       (try simp only [hl174000_65] at HO_183000)
       (try simp only [hl174000_65] at HO_183001)
       have hl174001_65 := (Kd.R_reads' HO_174001.out).1
       rw [hl174001_65] at HO_174001
       (try simp only [hl174001_65])
       (try simp only [hl174001_65] at BK148)
       (try simp only [hl174001_65] at BK165)
       (try simp only [hl174001_65] at BK173)
       (try simp only [hl174001_65] at BK182)
       (try simp only [hl174001_65] at HO_166000)
       (try simp only [hl174001_65] at HO_166001)
       (try simp only [hl174001_65] at HO_174000)
       (try simp only [hl174001_65] at HO_183000)
       (try simp only [hl174001_65] at HO_183001)
       cases kq with
       | zero => exact absurd HA.out (by simp [laws_FnExactDictCut.j1])
       | succ kj65 =>
        have H := HA.out
        clear HA
        simp only [laws_FnExactDictCut.j1] at H
        by_cases c96 : x69_65 = true
        ·subst c96
         have H1 : (none) = some r := by rw [if_pos rfl] at H; exact H
         clear H
         have H := H1
         clear H1
         exact absurd H (by simp)
        ·replace c96 := Bool.eq_false_iff.mpr c96
         subst c96
         have H1 : ((laws_markDict.f kj65 t174 t177 t180 1).bind fun bt196 => ((laws_heldDict.f kj65 bt196.2.1 bt196.2.2 t180 1).bind fun t199 => (if t199 < 0 then (none) else (if t199 = bt196.1 then ((laws_toDict.f kj65 l0_0 l0_1 a0_2).bind fun bt200 => ((impl_DictCut.f bt200.1 bt200.2.1 bt200.2.2 a1 a2).bind fun bt207 => ((laws_eqDict.f kj65 bt207.1 bt207.2.1 bt207.2.2.1 t157 t160 t163).bind fun t216 => (if t216 = true then (laws_FnExactDictCut.j2 kj65 bt196.1 (bt207.2.2.2 != t164) bt196.2.1 bt196.2.2 t180) else (laws_FnExactDictCut.j2 kj65 bt196.1 true bt196.2.1 bt196.2.2 t180))))) else (none))))) = some r := by rw [if_neg (show ¬ (false = true) by decide)] at H; exact H
         clear H
         have H := H1
         clear H1
         replace H := Option.bind_eq_some_iff.mp H
         obtain ⟨⟨t196, t197, t198⟩, A970, H⟩ := H
         replace H : ((laws_heldDict.f kj65 t197 t198 t180 1).bind fun t199 => (if t199 < 0 then (none) else (if t199 = t196 then ((laws_toDict.f kj65 l0_0 l0_1 a0_2).bind fun bt200 => ((impl_DictCut.f bt200.1 bt200.2.1 bt200.2.2 a1 a2).bind fun bt207 => ((laws_eqDict.f kj65 bt207.1 bt207.2.1 bt207.2.2.1 t157 t160 t163).bind fun t216 => (if t216 = true then (laws_FnExactDictCut.j2 kj65 t196 (bt207.2.2.2 != t164) t197 t198 t180) else (laws_FnExactDictCut.j2 kj65 t196 true t197 t198 t180))))) else (none)))) = some r := H
         have A97 := Aside0.mk A970
         clear A970
         replace H := Option.bind_eq_some_iff.mp H
         obtain ⟨t199, A980, H⟩ := H
         replace H : (if t199 < 0 then (none) else (if t199 = t196 then ((laws_toDict.f kj65 l0_0 l0_1 a0_2).bind fun bt200 => ((impl_DictCut.f bt200.1 bt200.2.1 bt200.2.2 a1 a2).bind fun bt207 => ((laws_eqDict.f kj65 bt207.1 bt207.2.1 bt207.2.2.1 t157 t160 t163).bind fun t216 => (if t216 = true then (laws_FnExactDictCut.j2 kj65 t196 (bt207.2.2.2 != t164) t197 t198 t180) else (laws_FnExactDictCut.j2 kj65 t196 true t197 t198 t180))))) else (none))) = some r := H
         have A98 := Aside0.mk A980
         clear A980
         by_cases c99 : t199 < 0
         ·rw [if_pos c99] at H
          exact absurd H (by simp)
         ·rw [if_neg c99] at H
          have c99b0 : decide (t199 < 0) = false := decide_eq_false c99
          clear c99
          by_cases c100 : t199 = t196
          ·rw [if_pos c100] at H
           have c100b0 : (t199 == t196) = true := beq_iff_eq.mpr c100
           have c100b1 : (t199 != t196) = false := bne_eq_false_iff_eq.mpr c100
           clear c100
           replace H := Option.bind_eq_some_iff.mp H
           obtain ⟨⟨t200, t203, t206⟩, A1010, H⟩ := H
           replace H : ((impl_DictCut.f t200 t203 t206 a1 a2).bind fun bt207 => ((laws_eqDict.f kj65 bt207.1 bt207.2.1 bt207.2.2.1 t157 t160 t163).bind fun t216 => (if t216 = true then (laws_FnExactDictCut.j2 kj65 t196 (bt207.2.2.2 != t164) t197 t198 t180) else (laws_FnExactDictCut.j2 kj65 t196 true t197 t198 t180)))) = some r := H
           have A101 := Aside0.mk A1010
           clear A1010
           replace H := Option.bind_eq_some_iff.mp H
           obtain ⟨⟨t207, t210, t213, t214⟩, A1020, H⟩ := H
           replace H : ((laws_eqDict.f kj65 t207 t210 t213 t157 t160 t163).bind fun t216 => (if t216 = true then (laws_FnExactDictCut.j2 kj65 t196 (t214 != t164) t197 t198 t180) else (laws_FnExactDictCut.j2 kj65 t196 true t197 t198 t180))) = some r := H
           have A102 := Aside0.mk A1020
           clear A1020
           have HC103 := Aside0.mk H
           clear H
           have hnb104 := NB182_148.out
           have hnc104 := NB148_182.out
           have hnb105 := NB182_165.out
           have hnc105 := NB165_182.out
           have hnb106 := NB182_173.out
           have hnc106 := NB173_182.out
           have hcz107_0 : wc.cell? ⟨gb182, 0, none⟩ = some (.slice Ao37 t174.length co37) := (blk_cell BK182.out 0).trans rfl
           have hcz107_1 : wc.cell? ⟨gb182, 1, none⟩ = some (.slice Ao42 t177.length co42) := (blk_cell BK182.out 1).trans rfl
           have hcz107_2 : wc.cell? ⟨gb182, 2, none⟩ = some (.int .i64 t180) := (blk_cell BK182.out 2).trans rfl
           have hfz107_0 := blk_frozen BK182.out 0
           have hfz107_1 := blk_frozen BK182.out 1
           have hfz107_2 := blk_frozen BK182.out 2
           go_upto_region 25 with (first | ((with_reducible refine gate_callee (f := 14) rfl ?_); refine goesL_ (some 72) rfl rfl Try.func14 qdc2_28 rfl #[.agg #[.slice Ao37 t174.length co37, .slice Ao42 t177.length co42, .int .i64 t180], .int .i64 1] rfl qdc2_10 ?_; (with_reducible refine (laws_markDict.calls kj65 (fun k_ => some k_ = (.slice Ao37 t174.length co37 : Value).ownBlock) (.slice Ao37 t174.length co37) t174 (fun k_ => some k_ = (.slice Ao42 t177.length co42 : Value).ownBlock) (.slice Ao42 t177.length co42) t177 t180 1 t196 t197 t198 w _ ?side1 ?side2 ?side3 A97.out).mono ?_); (case side1 => exact (qdc2_7 HB GE148 GE165 GE173 GE182)); (case side2 => exact Kd.R_tight rfl HO_183000.out); (case side3 => exact Kd.R_tight rfl HO_183001.out); rintro e w108 ⟨rfl, hy0, hy1, hb, hkp⟩; refine ⟨_, rfl, ?_⟩; have n0_ := Aside0.mk (Kd.R_mono (ok' := fun k_ => some k_ ≠ (.slice Ao30 t193.length co30 : Value).ownBlock ∧ some k_ ≠ (.slice Ao37 t174.length co37 : Value).ownBlock) (Kd.R_keptB ((Kd.R_apart' HO_166000.out (Kd.R_typed HO_183001.out) (by decide))) hkp (fun k_ hk_ hs_ => Or.elim hs_ (fun e_ => (hk_.1.2) e_) (fun e_ => (hk_.2) e_))) (fun k_ hk_ => ⟨hk_.1.1.1, hk_.1.1.2⟩)); have n1_ := Aside0.mk (Kd.R_mono (ok' := fun k_ => some k_ ≠ (.slice Ao34 t194.length co34 : Value).ownBlock ∧ some k_ ≠ (.slice Ao42 t177.length co42 : Value).ownBlock) (Kd.R_keptB ((Kd.R_apart' HO_166001.out (Kd.R_typed HO_183000.out) (by decide))) hkp (fun k_ hk_ hs_ => Or.elim hs_ (fun e_ => (hk_.2) e_) (fun e_ => (hk_.1.2) e_))) (fun k_ hk_ => ⟨hk_.1.1.1, hk_.1.1.2⟩)); have n2_ := Aside0.mk (Kd.R_mono (ok' := fun k_ => some k_ ≠ (.slice Ao23 t157.length co23 : Value).ownBlock ∧ some k_ ≠ (.slice Ao37 t174.length co37 : Value).ownBlock) (Kd.R_keptB ((Kd.R_apart' HO_174000.out (Kd.R_typed HO_183001.out) (by decide))) hkp (fun k_ hk_ hs_ => Or.elim hs_ (fun e_ => (hk_.1.2) e_) (fun e_ => (hk_.2) e_))) (fun k_ hk_ => ⟨hk_.1.1.1, hk_.1.1.2⟩)); have n3_ := Aside0.mk (Kd.R_mono (ok' := fun k_ => some k_ ≠ (.slice Ao26 t160.length co26 : Value).ownBlock ∧ some k_ ≠ (.slice Ao42 t177.length co42 : Value).ownBlock) (Kd.R_keptB ((Kd.R_apart' HO_174001.out (Kd.R_typed HO_183000.out) (by decide))) hkp (fun k_ hk_ hs_ => Or.elim hs_ (fun e_ => (hk_.2) e_) (fun e_ => (hk_.1.2) e_))) (fun k_ hk_ => ⟨hk_.1.1.1, hk_.1.1.2⟩)); have n4_ := Aside0.mk (Kd.R_reok rfl hy0 (fun k_ e_ => HO_183000.out.1 k_ e_)); have n5_ := Aside0.mk (Kd.R_reok rfl hy1 (fun k_ e_ => HO_183001.out.1 k_ e_)); have n6_ := Aside0.mk (blk_kept (qdc2_5 BK148) hkp (fun hs_ => Or.elim hs_ (fun e_ => (fun e_ => (Kd.R_ne HO_183000.out BK148.out (by decide)) e_) e_) (fun e_ => (fun e_ => (Kd.R_ne HO_183001.out BK148.out (by decide)) e_) e_))); have n7_ := Aside0.mk (blk_kept (qdc2_5 BK165) hkp (fun hs_ => Or.elim hs_ (fun e_ => (fun e_ => (Kd.R_ne HO_183000.out BK165.out (by decide)) e_) e_) (fun e_ => (fun e_ => (Kd.R_ne HO_183001.out BK165.out (by decide)) e_) e_))); have n8_ := Aside0.mk (blk_kept (qdc2_5 BK173) hkp (fun hs_ => Or.elim hs_ (fun e_ => (fun e_ => (Kd.R_ne HO_183000.out BK173.out (by decide)) e_) e_) (fun e_ => (fun e_ => (Kd.R_ne HO_183001.out BK173.out (by decide)) e_) e_))); have n9_ := Aside0.mk (blk_kept (qdc2_5 BK182) hkp (fun hs_ => Or.elim hs_ (fun e_ => (fun e_ => (Kd.R_ne HO_183000.out BK182.out (by decide)) e_) e_) (fun e_ => (fun e_ => (Kd.R_ne HO_183001.out BK182.out (by decide)) e_) e_))); have n10_ := Aside0.mk (hb); clear HO_166000; clear HO_166001; clear HO_174000; clear HO_174001; clear HO_183000; clear HO_183001; clear BK148; clear BK165; clear BK173; clear BK182; clear HB; have HO_166000 := n0_; have HO_166001 := n1_; have HO_174000 := n2_; have HO_174001 := n3_; have HO_183000 := n4_; have HO_183001 := n5_; have BK148 := n6_; have BK165 := n7_; have BK173 := n8_; have BK182 := n9_; have HB := n10_; clear n0_ n1_ n2_ n3_ n4_ n5_ n6_ n7_ n8_ n9_ n10_; (try clear hb); (try clear hkp); (try clear hy0); (try clear hy1); have hcz109_0 : w108.cell? ⟨gb182, 0, none⟩ = some (.slice Ao37 t174.length co37) := (blk_cell BK182.out 0).trans rfl; have hcz109_1 : w108.cell? ⟨gb182, 1, none⟩ = some (.slice Ao42 t177.length co42) := (blk_cell BK182.out 1).trans rfl; have hcz109_2 : w108.cell? ⟨gb182, 2, none⟩ = some (.int .i64 t180) := (blk_cell BK182.out 2).trans rfl; have hfz109_0 := blk_frozen BK182.out 0; have hfz109_1 := blk_frozen BK182.out 1; have hfz109_2 := blk_frozen BK182.out 2) | ((with_reducible refine gate_callee (f := 15) rfl ?_); refine goesL_ (some 75) rfl rfl Try.func15 qdc2_28 rfl #[.agg #[.slice Ao37 t197.length co37, .slice Ao42 t198.length co42, .int .i64 t180], .int .i64 1] rfl (by (try simp only [List.map_toArray, List.map_cons, List.map_nil]); first | done | (rw [show t197.length = t174.length from (Kd.R_reads' HO_183000.out).1.symm, show t198.length = t177.length from (Kd.R_reads' HO_183001.out).1.symm] <;> rfl) | rfl | (simp only [List.length_drop, List.length_take]; rfl)) ?_; (with_reducible refine (laws_heldDict.calls kj65 _ _ t197 _ _ t198 t180 1 t199 _ ?side1 ?side2 ?side3 ?side4 A98.out).mono ?_); (case side1 => exact (qdc2_8 HO_183000)); (case side2 => exact (by rw [show t197.length = t174.length from (Kd.R_reads' HO_183000.out).1.symm]; exact (Kd.R_reads' HO_183000.out).2.1)); (case side3 => exact (qdc2_8 HO_183001)); (case side4 => exact (by rw [show t198.length = t177.length from (Kd.R_reads' HO_183001.out).1.symm]; exact (Kd.R_reads' HO_183001.out).2.1)); rintro e w110 ⟨rfl, hb⟩; refine ⟨_, rfl, ?_⟩; have n0_ := Aside0.mk (Kd.R_below (qdc2_2 HO_166000) hb); have n1_ := Aside0.mk (Kd.R_below (qdc2_2 HO_166001) hb); have n2_ := Aside0.mk (Kd.R_below (qdc2_2 HO_174000) hb); have n3_ := Aside0.mk (Kd.R_below (qdc2_2 HO_174001) hb); have n4_ := Aside0.mk (Kd.R_below (qdc2_2 HO_183000) hb); have n5_ := Aside0.mk (Kd.R_below (qdc2_2 HO_183001) hb); have n6_ := Aside0.mk (blk_below (g := gb148) (o := .cells #[.slice A0_0 l0_0.length c0_0, .slice A0_1 l0_1.length c0_1, .int .i64 a0_2] 40 (0, 0)) (qdc2_5 BK148) hb); have n7_ := Aside0.mk (blk_below (g := gb165) (o := .cells #[.slice Ao23 t157.length co23, .slice Ao26 t160.length co26, .int .i64 t163] 25 (0, 0)) (qdc2_5 BK165) hb); have n8_ := Aside0.mk (blk_below (g := gb173) (o := .cells #[.slice Ao30 t193.length co30, .slice Ao34 t194.length co34, .int .i64 t172] 25 (0, 0)) (qdc2_5 BK173) hb); have n9_ := Aside0.mk (blk_below (g := gb182) (o := .cells #[.slice Ao37 t174.length co37, .slice Ao42 t177.length co42, .int .i64 t180] 25 (0, 0)) (qdc2_5 BK182) hb); have n10_ := Aside0.mk (below_step (qdc2_7 HB GE148 GE165 GE173 GE182) hb); clear HO_166000; clear HO_166001; clear HO_174000; clear HO_174001; clear HO_183000; clear HO_183001; clear BK148; clear BK165; clear BK173; clear BK182; clear HB; have HO_166000 := n0_; have HO_166001 := n1_; have HO_174000 := n2_; have HO_174001 := n3_; have HO_183000 := n4_; have HO_183001 := n5_; have BK148 := n6_; have BK165 := n7_; have BK173 := n8_; have BK182 := n9_; have HB := n10_; clear n0_ n1_ n2_ n3_ n4_ n5_ n6_ n7_ n8_ n9_ n10_; (try clear hb); (try clear hb2); (try clear hk); (try clear hi); have hnb111 := NB148_165.out; have hnc111 := NB165_148.out; have hnb112 := NB148_173.out; have hnc112 := NB173_148.out; have hcz113_0 : w110.cell? ⟨gb148, 0, none⟩ = some (.slice A0_0 l0_0.length c0_0) := (blk_cell BK148.out 0).trans rfl; have hcz113_1 : w110.cell? ⟨gb148, 1, none⟩ = some (.slice A0_1 l0_1.length c0_1) := (blk_cell BK148.out 1).trans rfl; have hcz113_2 : w110.cell? ⟨gb148, 2, none⟩ = some (.int .i64 a0_2) := (blk_cell BK148.out 2).trans rfl; have hfz113_0 := blk_frozen BK148.out 0; have hfz113_1 := blk_frozen BK148.out 1; have hfz113_2 := blk_frozen BK148.out 2) | ((with_reducible refine gate_callee (f := 21) rfl ?_); refine goesL_ (some 83) rfl rfl Try.func21 qdc2_28 rfl #[.agg #[.slice A0_0 l0_0.length c0_0, .slice A0_1 l0_1.length c0_1, .int .i64 a0_2]] rfl qdc2_10 ?_; (with_reducible refine (laws_toDict.calls kj65 _ _ l0_0 _ _ l0_1 a0_2 t200 t203 t206 _ ?side1 ?side2 ?side3 ?side4 A101.out).mono ?_); (case side1 => exact (qdc2_12 HR0_0 HB)); (case side2 => exact HC0_0.out); (case side3 => exact (qdc2_12 HR0_1 HB)); (case side4 => exact HC0_1.out); rintro e w114 ⟨v201, v204, rfl, ho0, ho1, hb⟩; refine ⟨_, rfl, ?_⟩; have n0_ := Aside0.mk (Kd.R_elder' (qdc2_2 HO_166000) (Kd.R_base ho0) hb); have n1_ := Aside0.mk (Kd.R_elder' (qdc2_2 HO_166001) (Kd.R_base ho1) hb); have n2_ := Aside0.mk (Kd.R_elder' (qdc2_2 HO_174000) (Kd.R_base ho0) hb); have n3_ := Aside0.mk (Kd.R_elder' (qdc2_2 HO_174001) (Kd.R_base ho1) hb); have n4_ := Aside0.mk (Kd.R_elder' (qdc2_2 HO_183000) (Kd.R_base ho0) hb); have n5_ := Aside0.mk (Kd.R_elder' (qdc2_2 HO_183001) (Kd.R_base ho1) hb); have n6_ := Aside0.mk (Kd.R_lower (Kd.R_new' (Kd.R_new' (Kd.R_new' ho0 (Kd.R_lt (qdc2_2 HO_166000))) (Kd.R_lt (qdc2_2 HO_174000))) (Kd.R_lt (qdc2_2 HO_183000))) (below_size (qdc2_7 HB GE148 GE165 GE173 GE182))); have n7_ := Aside0.mk (Kd.R_lower (Kd.R_new' (Kd.R_new' (Kd.R_new' ho1 (Kd.R_lt (qdc2_2 HO_166001))) (Kd.R_lt (qdc2_2 HO_174001))) (Kd.R_lt (qdc2_2 HO_183001))) (below_size (qdc2_7 HB GE148 GE165 GE173 GE182))); have n8_ := Aside0.mk (blk_below (g := gb148) (o := .cells #[.slice A0_0 l0_0.length c0_0, .slice A0_1 l0_1.length c0_1, .int .i64 a0_2] 40 (0, 0)) (qdc2_5 BK148) hb); have n9_ := Aside0.mk (blk_below (g := gb165) (o := .cells #[.slice Ao23 t157.length co23, .slice Ao26 t160.length co26, .int .i64 t163] 25 (0, 0)) (qdc2_5 BK165) hb); have n10_ := Aside0.mk (blk_below (g := gb173) (o := .cells #[.slice Ao30 t193.length co30, .slice Ao34 t194.length co34, .int .i64 t172] 25 (0, 0)) (qdc2_5 BK173) hb); have n11_ := Aside0.mk (blk_below (g := gb182) (o := .cells #[.slice Ao37 t174.length co37, .slice Ao42 t177.length co42, .int .i64 t180] 25 (0, 0)) (qdc2_5 BK182) hb); have n12_ := Aside0.mk (below_step (qdc2_7 HB GE148 GE165 GE173 GE182) hb); clear HO_166000; clear HO_166001; clear HO_174000; clear HO_174001; clear HO_183000; clear HO_183001; clear BK148; clear BK165; clear BK173; clear BK182; clear HB; have HO_166000 := n0_; have HO_166001 := n1_; have HO_174000 := n2_; have HO_174001 := n3_; have HO_183000 := n4_; have HO_183001 := n5_; have HO202 := n6_; have HO205 := n7_; have BK148 := n8_; have BK165 := n9_; have BK173 := n10_; have BK182 := n11_; have HB := n12_; clear n0_ n1_ n2_ n3_ n4_ n5_ n6_ n7_ n8_ n9_ n10_ n11_ n12_; (try clear hb); (try clear hb2); (try clear hk); (try clear hi); (try clear ho0); (try clear ho1); obtain ⟨Ao115, co115, eo115⟩ := Kd.R_slice HO202.out; subst eo115; obtain ⟨Ao116, co116, eo116⟩ := Kd.R_slice HO205.out; subst eo116) | ((with_reducible refine gate_callee (f := 34) rfl ?_); refine goesL_ (some 86) rfl rfl Try.func34 qdc2_28 rfl #[.agg #[.slice Ao115 t200.length co115, .slice Ao116 t203.length co116, .int .i64 t206], .int .u64 a1, .int .i64 a2] rfl qdc2_10 ?_; (with_reducible refine (impl_DictCut.calls _ _ t200 _ _ t203 t206 a1 a2 t207 t210 t213 t214 _ ?side1 ?side2 ?side3 ?side4 A102.out).mono ?_); (case side1 => exact (qdc2_8 HO202)); (case side2 => exact (Kd.R_reads' HO202.out).2.1); (case side3 => exact (qdc2_8 HO205)); (case side4 => exact (Kd.R_reads' HO205.out).2.1); rintro e w117 ⟨v208, v211, rfl, ho0, ho1, hb⟩; refine ⟨_, rfl, ?_⟩; have n0_ := Aside0.mk (Kd.R_elder' (qdc2_2 HO_166000) (Kd.R_base ho0) hb); have n1_ := Aside0.mk (Kd.R_elder' (qdc2_2 HO_166001) (Kd.R_base ho1) hb); have n2_ := Aside0.mk (Kd.R_elder' (qdc2_2 HO_174000) (Kd.R_base ho0) hb); have n3_ := Aside0.mk (Kd.R_elder' (qdc2_2 HO_174001) (Kd.R_base ho1) hb); have n4_ := Aside0.mk (Kd.R_elder' (qdc2_2 HO_183000) (Kd.R_base ho0) hb); have n5_ := Aside0.mk (Kd.R_elder' (qdc2_2 HO_183001) (Kd.R_base ho1) hb); have n6_ := Aside0.mk (Kd.R_elder' (qdc2_2 HO202) (Kd.R_base ho0) hb); have n7_ := Aside0.mk (Kd.R_elder' (qdc2_2 HO205) (Kd.R_base ho1) hb); have n8_ := Aside0.mk (Kd.R_lower (Kd.R_new' (Kd.R_new' (Kd.R_new' (Kd.R_new' ho0 (Kd.R_lt (qdc2_2 HO_166000))) (Kd.R_lt (qdc2_2 HO_174000))) (Kd.R_lt (qdc2_2 HO_183000))) (Kd.R_lt (qdc2_2 HO202))) (below_size (qdc2_7 HB GE148 GE165 GE173 GE182))); have n9_ := Aside0.mk (Kd.R_lower (Kd.R_new' (Kd.R_new' (Kd.R_new' (Kd.R_new' ho1 (Kd.R_lt (qdc2_2 HO_166001))) (Kd.R_lt (qdc2_2 HO_174001))) (Kd.R_lt (qdc2_2 HO_183001))) (Kd.R_lt (qdc2_2 HO205))) (below_size (qdc2_7 HB GE148 GE165 GE173 GE182))); have n10_ := Aside0.mk (blk_below (g := gb148) (o := .cells #[.slice A0_0 l0_0.length c0_0, .slice A0_1 l0_1.length c0_1, .int .i64 a0_2] 40 (0, 0)) (qdc2_5 BK148) hb); have n11_ := Aside0.mk (blk_below (g := gb165) (o := .cells #[.slice Ao23 t157.length co23, .slice Ao26 t160.length co26, .int .i64 t163] 25 (0, 0)) (qdc2_5 BK165) hb); have n12_ := Aside0.mk (blk_below (g := gb173) (o := .cells #[.slice Ao30 t193.length co30, .slice Ao34 t194.length co34, .int .i64 t172] 25 (0, 0)) (qdc2_5 BK173) hb); have n13_ := Aside0.mk (blk_below (g := gb182) (o := .cells #[.slice Ao37 t174.length co37, .slice Ao42 t177.length co42, .int .i64 t180] 25 (0, 0)) (qdc2_5 BK182) hb); have n14_ := Aside0.mk (below_step (qdc2_7 HB GE148 GE165 GE173 GE182) hb); clear HO_166000; clear HO_166001; clear HO_174000; clear HO_174001; clear HO_183000; clear HO_183001; clear HO202; clear HO205; clear BK148; clear BK165; clear BK173; clear BK182; clear HB; have HO_166000 := n0_; have HO_166001 := n1_; have HO_174000 := n2_; have HO_174001 := n3_; have HO_183000 := n4_; have HO_183001 := n5_; have HO202 := n6_; have HO205 := n7_; have HO209 := n8_; have HO212 := n9_; have BK148 := n10_; have BK165 := n11_; have BK173 := n12_; have BK182 := n13_; have HB := n14_; clear n0_ n1_ n2_ n3_ n4_ n5_ n6_ n7_ n8_ n9_ n10_ n11_ n12_ n13_ n14_; (try clear hb); (try clear hb2); (try clear hk); (try clear hi); (try clear ho0); (try clear ho1)) | ((with_reducible refine gate_dst (N := 16) rfl ?_); refine box_event ?hg (N := 16) ?hd (cs := #[.slice none 0 0, .slice none 0 0, .int .i64 0]) (t := 25) ?hr ?_; (case hd => rfl); (case hg => rfl); (case hr => exact (by first | (go_simp; done) | (go_simp; rfl))); intro gb215 hg w118 hbox hb; have n0_ := Aside0.mk (Kd.R_below (qdc2_2 HO_166000) hb); have n1_ := Aside0.mk (Kd.R_below (qdc2_2 HO_166001) hb); have n2_ := Aside0.mk (Kd.R_below (qdc2_2 HO_174000) hb); have n3_ := Aside0.mk (Kd.R_below (qdc2_2 HO_174001) hb); have n4_ := Aside0.mk (Kd.R_below (qdc2_2 HO_183000) hb); have n5_ := Aside0.mk (Kd.R_below (qdc2_2 HO_183001) hb); have n6_ := Aside0.mk (Kd.R_below (qdc2_2 HO202) hb); have n7_ := Aside0.mk (Kd.R_below (qdc2_2 HO205) hb); have n8_ := Aside0.mk (Kd.R_below (qdc2_2 HO209) hb); have n9_ := Aside0.mk (Kd.R_below (qdc2_2 HO212) hb); have n10_ := Aside0.mk (blk_below (g := gb148) (o := .cells #[.slice A0_0 l0_0.length c0_0, .slice A0_1 l0_1.length c0_1, .int .i64 a0_2] 40 (0, 0)) (qdc2_5 BK148) hb); have n11_ := Aside0.mk (blk_below (g := gb165) (o := .cells #[.slice Ao23 t157.length co23, .slice Ao26 t160.length co26, .int .i64 t163] 25 (0, 0)) (qdc2_5 BK165) hb); have n12_ := Aside0.mk (blk_below (g := gb173) (o := .cells #[.slice Ao30 t193.length co30, .slice Ao34 t194.length co34, .int .i64 t172] 25 (0, 0)) (qdc2_5 BK173) hb); have n13_ := Aside0.mk (blk_below (g := gb182) (o := .cells #[.slice Ao37 t174.length co37, .slice Ao42 t177.length co42, .int .i64 t180] 25 (0, 0)) (qdc2_5 BK182) hb); have n14_ := Aside0.mk (below_step (qdc2_7 HB GE148 GE165 GE173 GE182) hb); have n15_ := Aside0.mk (hbox); have n16_ := Aside0.mk ((by rw [hg]; exact (below_size (qdc2_7 HB GE148 GE165 GE173 GE182)) : w.heap.size ≤ gb215)); have n17_ := Aside0.mk ((by rw [hg]; exact (below_size (qdc2_7 HB GE148 GE165 GE173 GE182)) : w.heap.size ≤ gb215)); have n18_ := Aside0.mk ((by rw [hg]; exact Nat.ne_of_lt (blk_lt (g := gb148) (o := .cells #[.slice A0_0 l0_0.length c0_0, .slice A0_1 l0_1.length c0_1, .int .i64 a0_2] 40 (0, 0)) (qdc2_5 BK148)) : gb148 ≠ gb215)); have n19_ := Aside0.mk ((by rw [hg]; exact Nat.ne_of_gt (blk_lt (g := gb148) (o := .cells #[.slice A0_0 l0_0.length c0_0, .slice A0_1 l0_1.length c0_1, .int .i64 a0_2] 40 (0, 0)) (qdc2_5 BK148)) : gb215 ≠ gb148)); have n20_ := Aside0.mk ((by rw [hg]; exact Nat.ne_of_lt (blk_lt (g := gb165) (o := .cells #[.slice Ao23 t157.length co23, .slice Ao26 t160.length co26, .int .i64 t163] 25 (0, 0)) (qdc2_5 BK165)) : gb165 ≠ gb215)); have n21_ := Aside0.mk ((by rw [hg]; exact Nat.ne_of_gt (blk_lt (g := gb165) (o := .cells #[.slice Ao23 t157.length co23, .slice Ao26 t160.length co26, .int .i64 t163] 25 (0, 0)) (qdc2_5 BK165)) : gb215 ≠ gb165)); have n22_ := Aside0.mk ((by rw [hg]; exact Nat.ne_of_lt (blk_lt (g := gb173) (o := .cells #[.slice Ao30 t193.length co30, .slice Ao34 t194.length co34, .int .i64 t172] 25 (0, 0)) (qdc2_5 BK173)) : gb173 ≠ gb215)); have n23_ := Aside0.mk ((by rw [hg]; exact Nat.ne_of_gt (blk_lt (g := gb173) (o := .cells #[.slice Ao30 t193.length co30, .slice Ao34 t194.length co34, .int .i64 t172] 25 (0, 0)) (qdc2_5 BK173)) : gb215 ≠ gb173)); have n24_ := Aside0.mk ((by rw [hg]; exact Nat.ne_of_lt (blk_lt (g := gb182) (o := .cells #[.slice Ao37 t174.length co37, .slice Ao42 t177.length co42, .int .i64 t180] 25 (0, 0)) (qdc2_5 BK182)) : gb182 ≠ gb215)); have n25_ := Aside0.mk ((by rw [hg]; exact Nat.ne_of_gt (blk_lt (g := gb182) (o := .cells #[.slice Ao37 t174.length co37, .slice Ao42 t177.length co42, .int .i64 t180] 25 (0, 0)) (qdc2_5 BK182)) : gb215 ≠ gb182)); clear HO_166000; clear HO_166001; clear HO_174000; clear HO_174001; clear HO_183000; clear HO_183001; clear HO202; clear HO205; clear HO209; clear HO212; clear BK148; clear BK165; clear BK173; clear BK182; clear HB; have HO_166000 := n0_; have HO_166001 := n1_; have HO_174000 := n2_; have HO_174001 := n3_; have HO_183000 := n4_; have HO_183001 := n5_; have HO202 := n6_; have HO205 := n7_; have HO209 := n8_; have HO212 := n9_; have BK148 := n10_; have BK165 := n11_; have BK173 := n12_; have BK182 := n13_; have HB := n14_; have BK215 := n15_; have GW215 := n16_; have GE215 := n17_; have NB148_215 := n18_; have NB215_148 := n19_; have NB165_215 := n20_; have NB215_165 := n21_; have NB173_215 := n22_; have NB215_173 := n23_; have NB182_215 := n24_; have NB215_182 := n25_; clear n0_ n1_ n2_ n3_ n4_ n5_ n6_ n7_ n8_ n9_ n10_ n11_ n12_ n13_ n14_ n15_ n16_ n17_ n18_ n19_ n20_ n21_ n22_ n23_ n24_ n25_; clear hb hbox hg; obtain ⟨Ao119, co119, eo119⟩ := Kd.R_slice HO209.out; subst eo119; have hnb120 := NB215_148.out; have hnc120 := NB148_215.out; have hnb121 := NB215_165.out; have hnc121 := NB165_215.out; have hnb122 := NB215_173.out; have hnc122 := NB173_215.out; have hnb123 := NB215_182.out; have hnc123 := NB182_215.out; have hcz124_0 : w118.cell? ⟨gb215, 0, none⟩ = some (.slice none 0 0) := (blk_cell BK215.out 0).trans rfl; have hcz124_1 : w118.cell? ⟨gb215, 1, none⟩ = some (.slice none 0 0) := (blk_cell BK215.out 1).trans rfl; have hcz124_2 : w118.cell? ⟨gb215, 2, none⟩ = some (.int .i64 0) := (blk_cell BK215.out 2).trans rfl; have hfz124_0 := blk_frozen BK215.out 0; have hfz124_1 := blk_frozen BK215.out 1; have hfz124_2 := blk_frozen BK215.out 2; obtain ⟨Ao125, co125, eo125⟩ := Kd.R_slice HO212.out; subst eo125))
           (try simp only [Act.put, List.setIfInBounds_toArray, List.set_cons_zero, List.set_cons_succ])
           go_cut [97] (fun v97 wc => ∃ (kq : Nat) (x97_102 : Bool), v97 = .bool x97_102 ∧ Aside0 (laws_FnExactDictCut.j2 kq t196 x97_102 t197 t198 t180 = some r) ∧ Aside0 (kq ≤ kj65) ∧ Aside0 (Kd.R (Kd.int .i64) 2 wc w.heap.size (fun k_ => some k_ ≠ ((.slice Ao30 t193.length co30) : Value).ownBlock ∧ some k_ ≠ ((.slice Ao37 t174.length co37) : Value).ownBlock ∧ some k_ ≠ ((.slice Ao119 t207.length co119) : Value).ownBlock) (.slice Ao23 t157.length co23) t157) ∧ Aside0 (Kd.R k62 62 wc w.heap.size (fun k_ => some k_ ≠ ((.slice Ao34 t194.length co34) : Value).ownBlock ∧ some k_ ≠ ((.slice Ao42 t177.length co42) : Value).ownBlock ∧ some k_ ≠ ((.slice Ao125 t210.length co125) : Value).ownBlock) (.slice Ao26 t160.length co26) t160) ∧ Aside0 (Kd.R (Kd.int .i64) 2 wc w.heap.size (fun k_ => some k_ ≠ ((.slice Ao23 t157.length co23) : Value).ownBlock ∧ some k_ ≠ ((.slice Ao37 t174.length co37) : Value).ownBlock ∧ some k_ ≠ ((.slice Ao119 t207.length co119) : Value).ownBlock) (.slice Ao30 t193.length co30) t193) ∧ Aside0 (Kd.R k62 62 wc w.heap.size (fun k_ => some k_ ≠ ((.slice Ao26 t160.length co26) : Value).ownBlock ∧ some k_ ≠ ((.slice Ao42 t177.length co42) : Value).ownBlock ∧ some k_ ≠ ((.slice Ao125 t210.length co125) : Value).ownBlock) (.slice Ao34 t194.length co34) t194) ∧ Aside0 (Kd.R (Kd.int .i64) 2 wc w.heap.size (fun k_ => some k_ ≠ ((.slice Ao23 t157.length co23) : Value).ownBlock ∧ some k_ ≠ ((.slice Ao30 t193.length co30) : Value).ownBlock ∧ some k_ ≠ ((.slice Ao119 t207.length co119) : Value).ownBlock) (.slice Ao37 t174.length co37) t197) ∧ Aside0 (Kd.R k62 62 wc w.heap.size (fun k_ => some k_ ≠ ((.slice Ao26 t160.length co26) : Value).ownBlock ∧ some k_ ≠ ((.slice Ao34 t194.length co34) : Value).ownBlock ∧ some k_ ≠ ((.slice Ao125 t210.length co125) : Value).ownBlock) (.slice Ao42 t177.length co42) t198) ∧ Aside0 (Kd.R (Kd.int .i64) 2 wc w.heap.size (fun k_ => some k_ ≠ ((.slice Ao23 t157.length co23) : Value).ownBlock ∧ some k_ ≠ ((.slice Ao30 t193.length co30) : Value).ownBlock ∧ some k_ ≠ ((.slice Ao37 t174.length co37) : Value).ownBlock) (.slice Ao119 t207.length co119) t207) ∧ Aside0 (Kd.R k62 62 wc w.heap.size (fun k_ => some k_ ≠ ((.slice Ao26 t160.length co26) : Value).ownBlock ∧ some k_ ≠ ((.slice Ao34 t194.length co34) : Value).ownBlock ∧ some k_ ≠ ((.slice Ao42 t177.length co42) : Value).ownBlock) (.slice Ao125 t210.length co125) t210) ∧ Aside0 (wc.heap[gb148]? = some (.cells #[(.slice A0_0 l0_0.length c0_0), (.slice A0_1 l0_1.length c0_1), .int .i64 a0_2] 40 (0, 0))) ∧ Aside0 (wc.heap[gb165]? = some (.cells #[(.slice Ao23 t157.length co23), (.slice Ao26 t160.length co26), .int .i64 t163] 25 (0, 0))) ∧ Aside0 (wc.heap[gb173]? = some (.cells #[(.slice Ao30 t193.length co30), (.slice Ao34 t194.length co34), .int .i64 t172] 25 (0, 0))) ∧ Aside0 (wc.heap[gb182]? = some (.cells #[(.slice Ao37 t174.length co37), (.slice Ao42 t177.length co42), .int .i64 t180] 25 (0, 0))) ∧ Aside0 (wc.heap[gb215]? = some (.cells #[(.slice Ao119 t207.length co119), (.slice Ao125 t210.length co125), .int .i64 t213] 25 (0, 0))) ∧ Aside0 (Below w.heap.size w wc))
           case first =>
            have H := HC103.out
            clear HC103
            replace H := Option.bind_eq_some_iff.mp H
            obtain ⟨t216, A1260, H⟩ := H
            replace H : (if t216 = true then (laws_FnExactDictCut.j2 kj65 t196 (t214 != t164) t197 t198 t180) else (laws_FnExactDictCut.j2 kj65 t196 true t197 t198 t180)) = some r := H
            have A126 := Aside0.mk A1260
            clear A1260
            by_cases c127 : t216 = true
            ·subst c127
             have H1 : (laws_FnExactDictCut.j2 kj65 t196 (t214 != t164) t197 t198 t180) = some r := by rw [if_pos rfl] at H; exact H
             clear H
             have H := H1
             clear H1
             have H' := Aside0.mk H
             clear H
             have hnb128 := NB215_148.out
             have hnc128 := NB148_215.out
             have hnb129 := NB215_165.out
             have hnc129 := NB165_215.out
             have hnb130 := NB215_173.out
             have hnc130 := NB173_215.out
             have hnb131 := NB215_182.out
             have hnc131 := NB182_215.out
             have hcz132_0 : w118.cell? ⟨gb215, 0, none⟩ = some (.slice none 0 0) := (blk_cell BK215.out 0).trans rfl
             have hcz132_1 : w118.cell? ⟨gb215, 1, none⟩ = some (.slice none 0 0) := (blk_cell BK215.out 1).trans rfl
             have hcz132_2 : w118.cell? ⟨gb215, 2, none⟩ = some (.int .i64 0) := (blk_cell BK215.out 2).trans rfl
             have hfz132_0 := blk_frozen BK215.out 0
             have hfz132_1 := blk_frozen BK215.out 1
             have hfz132_2 := blk_frozen BK215.out 2
             have hnb133 := NB165_148.out
             have hnc133 := NB148_165.out
             have hnb134 := NB165_173.out
             have hnc134 := NB173_165.out
             have hnb135 := NB165_182.out
             have hnc135 := NB182_165.out
             have hcz136_0 : w118.cell? ⟨gb165, 0, none⟩ = some (.slice Ao23 t157.length co23) := (blk_cell BK165.out 0).trans rfl
             have hcz136_1 : w118.cell? ⟨gb165, 1, none⟩ = some (.slice Ao26 t160.length co26) := (blk_cell BK165.out 1).trans rfl
             have hcz136_2 : w118.cell? ⟨gb165, 2, none⟩ = some (.int .i64 t163) := (blk_cell BK165.out 2).trans rfl
             have hfz136_0 := blk_frozen BK165.out 0
             have hfz136_1 := blk_frozen BK165.out 1
             have hfz136_2 := blk_frozen BK165.out 2
             go_wp2_with (first | ((with_reducible refine gate_callee (f := 13) rfl ?_); refine goesL_ (some 91) rfl rfl Try.func13 qdc2_28 rfl #[.agg #[.slice Ao119 t207.length co119, .slice Ao125 t210.length co125, .int .i64 t213], .agg #[.slice Ao23 t157.length co23, .slice Ao26 t160.length co26, .int .i64 t163]] rfl qdc2_10 ?_; (with_reducible refine (laws_eqDict.calls kj65 _ _ t207 _ _ t210 t213 _ _ t157 _ _ t160 t163 true _ ?side1 ?side2 ?side3 ?side4 ?side5 ?side6 ?side7 ?side8 A126.out).mono ?_); (case side1 => exact qdc2_19); (case side2 => exact (Kd.R_reads' HO209.out).2.1); (case side3 => exact qdc2_18); (case side4 => exact (Kd.R_reads' HO212.out).2.1); (case side5 => exact qdc2_21); (case side6 => exact (Kd.R_reads' HO_166000.out).2.1); (case side7 => exact qdc2_20); (case side8 => exact (Kd.R_reads' HO_166001.out).2.1); rintro e w137 ⟨rfl, hb⟩; refine ⟨_, rfl, ?_⟩; have n0_ := Aside0.mk (Kd.R_below (qdc2_1 HO_166000 BK215) hb); have n1_ := Aside0.mk (Kd.R_below (qdc2_1 HO_166001 BK215) hb); have n2_ := Aside0.mk (Kd.R_below (qdc2_1 HO_174000 BK215) hb); have n3_ := Aside0.mk (Kd.R_below (qdc2_1 HO_174001 BK215) hb); have n4_ := Aside0.mk (Kd.R_below (qdc2_1 HO_183000 BK215) hb); have n5_ := Aside0.mk (Kd.R_below (qdc2_1 HO_183001 BK215) hb); have n6_ := Aside0.mk (Kd.R_below (qdc2_1 HO202 BK215) hb); have n7_ := Aside0.mk (Kd.R_below (qdc2_1 HO205 BK215) hb); have n8_ := Aside0.mk (Kd.R_below (qdc2_1 HO209 BK215) hb); have n9_ := Aside0.mk (Kd.R_below (qdc2_1 HO212 BK215) hb); have n10_ := Aside0.mk (blk_below (g := gb148) (o := .cells #[.slice A0_0 l0_0.length c0_0, .slice A0_1 l0_1.length c0_1, .int .i64 a0_2] 40 (0, 0)) (qdc2_4 NB148_215 BK148) hb); have n11_ := Aside0.mk (blk_below (g := gb165) (o := .cells #[.slice Ao23 t157.length co23, .slice Ao26 t160.length co26, .int .i64 t163] 25 (0, 0)) (qdc2_4 NB165_215 BK165) hb); have n12_ := Aside0.mk (blk_below (g := gb173) (o := .cells #[.slice Ao30 t193.length co30, .slice Ao34 t194.length co34, .int .i64 t172] 25 (0, 0)) (qdc2_4 NB173_215 BK173) hb); have n13_ := Aside0.mk (blk_below (g := gb182) (o := .cells #[.slice Ao37 t174.length co37, .slice Ao42 t177.length co42, .int .i64 t180] 25 (0, 0)) (qdc2_4 NB182_215 BK182) hb); have n14_ := Aside0.mk (blk_below (g := gb215) (o := .cells #[.slice Ao119 t207.length co119, .slice Ao125 t210.length co125, .int .i64 t213] 25 (0, 0)) (qdc2_15 BK215) hb); have n15_ := Aside0.mk (below_step (qdc2_26 HB GE148 GE165 GE173 GE182 GE215) hb); clear HO_166000; clear HO_166001; clear HO_174000; clear HO_174001; clear HO_183000; clear HO_183001; clear HO202; clear HO205; clear HO209; clear HO212; clear BK148; clear BK165; clear BK173; clear BK182; clear BK215; clear HB; have HO_166000 := n0_; have HO_166001 := n1_; have HO_174000 := n2_; have HO_174001 := n3_; have HO_183000 := n4_; have HO_183001 := n5_; have HO202 := n6_; have HO205 := n7_; have HO209 := n8_; have HO212 := n9_; have BK148 := n10_; have BK165 := n11_; have BK173 := n12_; have BK182 := n13_; have BK215 := n14_; have HB := n15_; clear n0_ n1_ n2_ n3_ n4_ n5_ n6_ n7_ n8_ n9_ n10_ n11_ n12_ n13_ n14_ n15_; (try clear hb); (try clear hb2); (try clear hk); (try clear hi)))
             go_meet
             case rel => exact ⟨_, ((t214 != t164)), qdc2_27, H', ⟨by have := HJ12.out; have := HJ65.out; first | omega | exact Nat.le_refl _⟩, ⟨by (try simp only [hl174000_65]); (try simp only [hl174001_65]); (with_reducible repeat (first | apply Kd.R_alloc | apply Kd.R_drewN | apply Kd.R_drew)); exact Kd.R_mono HO_166000.out (fun _ hk => ⟨hk.1.1.1, ⟨hk.1.1.2, hk.2⟩⟩)⟩, ⟨by (try simp only [hl174000_65]); (try simp only [hl174001_65]); (with_reducible repeat (first | apply Kd.R_alloc | apply Kd.R_drewN | apply Kd.R_drew)); exact Kd.R_mono HO_166001.out (fun _ hk => ⟨hk.1.1.1, ⟨hk.1.1.2, hk.2⟩⟩)⟩, ⟨by (try simp only [hl174000_65]); (try simp only [hl174001_65]); (with_reducible repeat (first | apply Kd.R_alloc | apply Kd.R_drewN | apply Kd.R_drew)); exact Kd.R_mono HO_174000.out (fun _ hk => ⟨hk.1.1.1, ⟨hk.1.1.2, hk.2⟩⟩)⟩, ⟨by (try simp only [hl174000_65]); (try simp only [hl174001_65]); (with_reducible repeat (first | apply Kd.R_alloc | apply Kd.R_drewN | apply Kd.R_drew)); exact Kd.R_mono HO_174001.out (fun _ hk => ⟨hk.1.1.1, ⟨hk.1.1.2, hk.2⟩⟩)⟩, ⟨by (try simp only [hl174000_65]); (try simp only [hl174001_65]); (with_reducible repeat (first | apply Kd.R_alloc | apply Kd.R_drewN | apply Kd.R_drew)); exact Kd.R_mono HO_183000.out (fun _ hk => ⟨hk.1.1.1, ⟨hk.1.1.2, hk.2⟩⟩)⟩, ⟨by (try simp only [hl174000_65]); (try simp only [hl174001_65]); (with_reducible repeat (first | apply Kd.R_alloc | apply Kd.R_drewN | apply Kd.R_drew)); exact Kd.R_mono HO_183001.out (fun _ hk => ⟨hk.1.1.1, ⟨hk.1.1.2, hk.2⟩⟩)⟩, ⟨by (try simp only [hl174000_65]); (try simp only [hl174001_65]); (with_reducible repeat (first | apply Kd.R_alloc | apply Kd.R_drewN | apply Kd.R_drew)); exact Kd.R_mono HO209.out (fun _ hk => ⟨hk.1.1.1.2, ⟨hk.1.1.2, hk.1.2⟩⟩)⟩, ⟨by (try simp only [hl174000_65]); (try simp only [hl174001_65]); (with_reducible repeat (first | apply Kd.R_alloc | apply Kd.R_drewN | apply Kd.R_drew)); exact Kd.R_mono HO212.out (fun _ hk => ⟨hk.1.1.1.2, ⟨hk.1.1.2, hk.1.2⟩⟩)⟩, ⟨by (try simp only [hl174000_65]); (try simp only [hl174001_65]); (with_reducible repeat (first | refine blk_drewN ?_ _ | refine blk_drew ?_ | refine blk_alloc ?_ _)); exact BK148.out⟩, ⟨by (try simp only [hl174000_65]); (try simp only [hl174001_65]); (with_reducible repeat (first | refine blk_drewN ?_ _ | refine blk_drew ?_ | refine blk_alloc ?_ _)); exact BK165.out⟩, ⟨by (try simp only [hl174000_65]); (try simp only [hl174001_65]); (with_reducible repeat (first | refine blk_drewN ?_ _ | refine blk_drew ?_ | refine blk_alloc ?_ _)); exact BK173.out⟩, ⟨by (try simp only [hl174000_65]); (try simp only [hl174001_65]); (with_reducible repeat (first | refine blk_drewN ?_ _ | refine blk_drew ?_ | refine blk_alloc ?_ _)); exact BK182.out⟩, ⟨by (try simp only [hl174000_65]); (try simp only [hl174001_65]); (with_reducible repeat (first | refine blk_drewN ?_ _ | refine blk_drew ?_ | refine blk_alloc ?_ _)); exact BK215.out⟩, ⟨by repeat (first | (with_reducible first | exact HB.out | apply below_alloc | apply pw_below_drewN | apply below_drew1 | refine below_set ?_ GE148.out | refine below_set ?_ GE165.out | refine below_set ?_ GE173.out | refine below_set ?_ GE182.out | refine below_set ?_ GE215.out) | exact HB.out)⟩⟩
            ·replace c127 := Bool.eq_false_iff.mpr c127
             subst c127
             have H1 : (laws_FnExactDictCut.j2 kj65 t196 true t197 t198 t180) = some r := by rw [if_neg (show ¬ (false = true) by decide)] at H; exact H
             clear H
             have H := H1
             clear H1
             have H' := Aside0.mk H
             clear H
             have hnb138 := NB215_148.out
             have hnc138 := NB148_215.out
             have hnb139 := NB215_165.out
             have hnc139 := NB165_215.out
             have hnb140 := NB215_173.out
             have hnc140 := NB173_215.out
             have hnb141 := NB215_182.out
             have hnc141 := NB182_215.out
             have hcz142_0 : w118.cell? ⟨gb215, 0, none⟩ = some (.slice none 0 0) := (blk_cell BK215.out 0).trans rfl
             have hcz142_1 : w118.cell? ⟨gb215, 1, none⟩ = some (.slice none 0 0) := (blk_cell BK215.out 1).trans rfl
             have hcz142_2 : w118.cell? ⟨gb215, 2, none⟩ = some (.int .i64 0) := (blk_cell BK215.out 2).trans rfl
             have hfz142_0 := blk_frozen BK215.out 0
             have hfz142_1 := blk_frozen BK215.out 1
             have hfz142_2 := blk_frozen BK215.out 2
             have hnb143 := NB165_148.out
             have hnc143 := NB148_165.out
             have hnb144 := NB165_173.out
             have hnc144 := NB173_165.out
             have hnb145 := NB165_182.out
             have hnc145 := NB182_165.out
             have hcz146_0 : w118.cell? ⟨gb165, 0, none⟩ = some (.slice Ao23 t157.length co23) := (blk_cell BK165.out 0).trans rfl
             have hcz146_1 : w118.cell? ⟨gb165, 1, none⟩ = some (.slice Ao26 t160.length co26) := (blk_cell BK165.out 1).trans rfl
             have hcz146_2 : w118.cell? ⟨gb165, 2, none⟩ = some (.int .i64 t163) := (blk_cell BK165.out 2).trans rfl
             have hfz146_0 := blk_frozen BK165.out 0
             have hfz146_1 := blk_frozen BK165.out 1
             have hfz146_2 := blk_frozen BK165.out 2
             go_wp2_with (first | ((with_reducible refine gate_callee (f := 13) rfl ?_); refine goesL_ (some 91) rfl rfl Try.func13 qdc2_28 rfl #[.agg #[.slice Ao119 t207.length co119, .slice Ao125 t210.length co125, .int .i64 t213], .agg #[.slice Ao23 t157.length co23, .slice Ao26 t160.length co26, .int .i64 t163]] rfl qdc2_10 ?_; (with_reducible refine (laws_eqDict.calls kj65 _ _ t207 _ _ t210 t213 _ _ t157 _ _ t160 t163 false _ ?side1 ?side2 ?side3 ?side4 ?side5 ?side6 ?side7 ?side8 A126.out).mono ?_); (case side1 => exact qdc2_19); (case side2 => exact (Kd.R_reads' HO209.out).2.1); (case side3 => exact qdc2_18); (case side4 => exact (Kd.R_reads' HO212.out).2.1); (case side5 => exact qdc2_21); (case side6 => exact (Kd.R_reads' HO_166000.out).2.1); (case side7 => exact qdc2_20); (case side8 => exact (Kd.R_reads' HO_166001.out).2.1); rintro e w147 ⟨rfl, hb⟩; refine ⟨_, rfl, ?_⟩; have n0_ := Aside0.mk (Kd.R_below (qdc2_1 HO_166000 BK215) hb); have n1_ := Aside0.mk (Kd.R_below (qdc2_1 HO_166001 BK215) hb); have n2_ := Aside0.mk (Kd.R_below (qdc2_1 HO_174000 BK215) hb); have n3_ := Aside0.mk (Kd.R_below (qdc2_1 HO_174001 BK215) hb); have n4_ := Aside0.mk (Kd.R_below (qdc2_1 HO_183000 BK215) hb); have n5_ := Aside0.mk (Kd.R_below (qdc2_1 HO_183001 BK215) hb); have n6_ := Aside0.mk (Kd.R_below (qdc2_1 HO202 BK215) hb); have n7_ := Aside0.mk (Kd.R_below (qdc2_1 HO205 BK215) hb); have n8_ := Aside0.mk (Kd.R_below (qdc2_1 HO209 BK215) hb); have n9_ := Aside0.mk (Kd.R_below (qdc2_1 HO212 BK215) hb); have n10_ := Aside0.mk (blk_below (g := gb148) (o := .cells #[.slice A0_0 l0_0.length c0_0, .slice A0_1 l0_1.length c0_1, .int .i64 a0_2] 40 (0, 0)) (qdc2_4 NB148_215 BK148) hb); have n11_ := Aside0.mk (blk_below (g := gb165) (o := .cells #[.slice Ao23 t157.length co23, .slice Ao26 t160.length co26, .int .i64 t163] 25 (0, 0)) (qdc2_4 NB165_215 BK165) hb); have n12_ := Aside0.mk (blk_below (g := gb173) (o := .cells #[.slice Ao30 t193.length co30, .slice Ao34 t194.length co34, .int .i64 t172] 25 (0, 0)) (qdc2_4 NB173_215 BK173) hb); have n13_ := Aside0.mk (blk_below (g := gb182) (o := .cells #[.slice Ao37 t174.length co37, .slice Ao42 t177.length co42, .int .i64 t180] 25 (0, 0)) (qdc2_4 NB182_215 BK182) hb); have n14_ := Aside0.mk (blk_below (g := gb215) (o := .cells #[.slice Ao119 t207.length co119, .slice Ao125 t210.length co125, .int .i64 t213] 25 (0, 0)) (qdc2_15 BK215) hb); have n15_ := Aside0.mk (below_step (qdc2_26 HB GE148 GE165 GE173 GE182 GE215) hb); clear HO_166000; clear HO_166001; clear HO_174000; clear HO_174001; clear HO_183000; clear HO_183001; clear HO202; clear HO205; clear HO209; clear HO212; clear BK148; clear BK165; clear BK173; clear BK182; clear BK215; clear HB; have HO_166000 := n0_; have HO_166001 := n1_; have HO_174000 := n2_; have HO_174001 := n3_; have HO_183000 := n4_; have HO_183001 := n5_; have HO202 := n6_; have HO205 := n7_; have HO209 := n8_; have HO212 := n9_; have BK148 := n10_; have BK165 := n11_; have BK173 := n12_; have BK182 := n13_; have BK215 := n14_; have HB := n15_; clear n0_ n1_ n2_ n3_ n4_ n5_ n6_ n7_ n8_ n9_ n10_ n11_ n12_ n13_ n14_ n15_; (try clear hb); (try clear hb2); (try clear hk); (try clear hi)))
             go_meet
             case rel => exact ⟨_, (true), qdc2_27, H', ⟨by have := HJ12.out; have := HJ65.out; first | omega | exact Nat.le_refl _⟩, ⟨by (try simp only [hl174000_65]); (try simp only [hl174001_65]); (with_reducible repeat (first | apply Kd.R_alloc | apply Kd.R_drewN | apply Kd.R_drew)); exact Kd.R_mono HO_166000.out (fun _ hk => ⟨hk.1.1.1, ⟨hk.1.1.2, hk.2⟩⟩)⟩, ⟨by (try simp only [hl174000_65]); (try simp only [hl174001_65]); (with_reducible repeat (first | apply Kd.R_alloc | apply Kd.R_drewN | apply Kd.R_drew)); exact Kd.R_mono HO_166001.out (fun _ hk => ⟨hk.1.1.1, ⟨hk.1.1.2, hk.2⟩⟩)⟩, ⟨by (try simp only [hl174000_65]); (try simp only [hl174001_65]); (with_reducible repeat (first | apply Kd.R_alloc | apply Kd.R_drewN | apply Kd.R_drew)); exact Kd.R_mono HO_174000.out (fun _ hk => ⟨hk.1.1.1, ⟨hk.1.1.2, hk.2⟩⟩)⟩, ⟨by (try simp only [hl174000_65]); (try simp only [hl174001_65]); (with_reducible repeat (first | apply Kd.R_alloc | apply Kd.R_drewN | apply Kd.R_drew)); exact Kd.R_mono HO_174001.out (fun _ hk => ⟨hk.1.1.1, ⟨hk.1.1.2, hk.2⟩⟩)⟩, ⟨by (try simp only [hl174000_65]); (try simp only [hl174001_65]); (with_reducible repeat (first | apply Kd.R_alloc | apply Kd.R_drewN | apply Kd.R_drew)); exact Kd.R_mono HO_183000.out (fun _ hk => ⟨hk.1.1.1, ⟨hk.1.1.2, hk.2⟩⟩)⟩, ⟨by (try simp only [hl174000_65]); (try simp only [hl174001_65]); (with_reducible repeat (first | apply Kd.R_alloc | apply Kd.R_drewN | apply Kd.R_drew)); exact Kd.R_mono HO_183001.out (fun _ hk => ⟨hk.1.1.1, ⟨hk.1.1.2, hk.2⟩⟩)⟩, ⟨by (try simp only [hl174000_65]); (try simp only [hl174001_65]); (with_reducible repeat (first | apply Kd.R_alloc | apply Kd.R_drewN | apply Kd.R_drew)); exact Kd.R_mono HO209.out (fun _ hk => ⟨hk.1.1.1.2, ⟨hk.1.1.2, hk.1.2⟩⟩)⟩, ⟨by (try simp only [hl174000_65]); (try simp only [hl174001_65]); (with_reducible repeat (first | apply Kd.R_alloc | apply Kd.R_drewN | apply Kd.R_drew)); exact Kd.R_mono HO212.out (fun _ hk => ⟨hk.1.1.1.2, ⟨hk.1.1.2, hk.1.2⟩⟩)⟩, ⟨by (try simp only [hl174000_65]); (try simp only [hl174001_65]); (with_reducible repeat (first | refine blk_drewN ?_ _ | refine blk_drew ?_ | refine blk_alloc ?_ _)); exact BK148.out⟩, ⟨by (try simp only [hl174000_65]); (try simp only [hl174001_65]); (with_reducible repeat (first | refine blk_drewN ?_ _ | refine blk_drew ?_ | refine blk_alloc ?_ _)); exact BK165.out⟩, ⟨by (try simp only [hl174000_65]); (try simp only [hl174001_65]); (with_reducible repeat (first | refine blk_drewN ?_ _ | refine blk_drew ?_ | refine blk_alloc ?_ _)); exact BK173.out⟩, ⟨by (try simp only [hl174000_65]); (try simp only [hl174001_65]); (with_reducible repeat (first | refine blk_drewN ?_ _ | refine blk_drew ?_ | refine blk_alloc ?_ _)); exact BK182.out⟩, ⟨by (try simp only [hl174000_65]); (try simp only [hl174001_65]); (with_reducible repeat (first | refine blk_drewN ?_ _ | refine blk_drew ?_ | refine blk_alloc ?_ _)); exact BK215.out⟩, ⟨by repeat (first | (with_reducible first | exact HB.out | apply below_alloc | apply pw_below_drewN | apply below_drew1 | refine below_set ?_ GE148.out | refine below_set ?_ GE165.out | refine below_set ?_ GE173.out | refine below_set ?_ GE182.out | refine below_set ?_ GE215.out) | exact HB.out)⟩⟩
           case rest =>
            clear HC103
            try clear c1
            try clear c2
            try clear p2
            try clear c3
            try clear c4
            try clear c5
            try clear c5b0
            try clear c6
            try clear c7
            try clear c8
            try clear c9
            try clear c10
            try clear c11
            try clear c12
            try clear c13
            try clear c14
            try clear c15
            try clear c19
            try clear c21
            try clear c24
            try clear c31
            try clear c32
            try clear c33
            try clear c34
            try clear c38
            try clear c39
            try clear c40
            try clear c44
            try clear c45
            try clear c46
            try clear c47
            try clear c49
            try clear c50
            try clear c53
            try clear c54
            try clear c55
            try clear c57
            try clear c58
            try clear c61
            try clear c64
            try clear c72
            try clear c73
            try clear c74
            try clear c77
            try clear c77b0
            try clear c79
            try clear c80
            try clear c81
            try clear c82
            try clear c84
            try clear c85
            try clear c88
            try clear c89
            try clear c90
            try clear c92
            try clear c93
            try clear c96
            try clear c99
            try clear c99b0
            try clear c100
            try clear c100b0
            try clear c100b1
            try clear c104
            try clear c105
            try clear c106
            try clear c111
            try clear c112
            try clear c120
            try clear c121
            try clear c122
            try clear c123
            try clear c127
            try clear c128
            try clear c129
            try clear c130
            try clear c131
            try clear c133
            try clear c134
            try clear c135
            try clear c138
            try clear c139
            try clear c140
            try clear c141
            try clear c143
            try clear c144
            try clear c145
            try clear hcz107_0
            try clear hcz107_1
            try clear hcz107_2
            try clear hcz109_0
            try clear hcz109_1
            try clear hcz109_2
            try clear hcz113_0
            try clear hcz113_1
            try clear hcz113_2
            try clear hcz124_0
            try clear hcz124_1
            try clear hcz124_2
            try clear hcz132_0
            try clear hcz132_1
            try clear hcz132_2
            try clear hcz136_0
            try clear hcz136_1
            try clear hcz136_2
            try clear hcz142_0
            try clear hcz142_1
            try clear hcz142_2
            try clear hcz146_0
            try clear hcz146_1
            try clear hcz146_2
            try clear hcz15_0
            try clear hcz15_1
            try clear hcz15_2
            try clear hcz17_0
            try clear hcz17_1
            try clear hcz17_2
            try clear hcz25_0
            try clear hcz25_1
            try clear hcz25_2
            try clear hcz27_0
            try clear hcz27_1
            try clear hcz27_2
            try clear hcz33_0
            try clear hcz33_1
            try clear hcz33_2
            try clear hcz41_0
            try clear hcz41_1
            try clear hcz41_2
            try clear hcz48_0
            try clear hcz48_1
            try clear hcz48_2
            try clear hcz51_0
            try clear hcz51_1
            try clear hcz51_2
            try clear hcz56_0
            try clear hcz56_1
            try clear hcz56_2
            try clear hcz59_0
            try clear hcz59_1
            try clear hcz59_2
            try clear hcz75_0
            try clear hcz75_1
            try clear hcz75_2
            try clear hcz7_0
            try clear hcz7_1
            try clear hcz7_2
            try clear hcz83_0
            try clear hcz83_1
            try clear hcz83_2
            try clear hcz86_0
            try clear hcz86_1
            try clear hcz86_2
            try clear hcz91_0
            try clear hcz91_1
            try clear hcz91_2
            try clear hcz94_0
            try clear hcz94_1
            try clear hcz94_2
            try clear hfz107_0
            try clear hfz107_1
            try clear hfz107_2
            try clear hfz109_0
            try clear hfz109_1
            try clear hfz109_2
            try clear hfz113_0
            try clear hfz113_1
            try clear hfz113_2
            try clear hfz124_0
            try clear hfz124_1
            try clear hfz124_2
            try clear hfz132_0
            try clear hfz132_1
            try clear hfz132_2
            try clear hfz136_0
            try clear hfz136_1
            try clear hfz136_2
            try clear hfz142_0
            try clear hfz142_1
            try clear hfz142_2
            try clear hfz146_0
            try clear hfz146_1
            try clear hfz146_2
            try clear hfz15_0
            try clear hfz15_1
            try clear hfz15_2
            try clear hfz17_0
            try clear hfz17_1
            try clear hfz17_2
            try clear hfz25_0
            try clear hfz25_1
            try clear hfz25_2
            try clear hfz27_0
            try clear hfz27_1
            try clear hfz27_2
            try clear hfz33_0
            try clear hfz33_1
            try clear hfz33_2
            try clear hfz41_0
            try clear hfz41_1
            try clear hfz41_2
            try clear hfz48_0
            try clear hfz48_1
            try clear hfz48_2
            try clear hfz51_0
            try clear hfz51_1
            try clear hfz51_2
            try clear hfz56_0
            try clear hfz56_1
            try clear hfz56_2
            try clear hfz59_0
            try clear hfz59_1
            try clear hfz59_2
            try clear hfz75_0
            try clear hfz75_1
            try clear hfz75_2
            try clear hfz7_0
            try clear hfz7_1
            try clear hfz7_2
            try clear hfz83_0
            try clear hfz83_1
            try clear hfz83_2
            try clear hfz86_0
            try clear hfz86_1
            try clear hfz86_2
            try clear hfz91_0
            try clear hfz91_1
            try clear hfz91_2
            try clear hfz94_0
            try clear hfz94_1
            try clear hfz94_2
            try clear p2
            obtain ⟨kq, x97_102, rfl, HA, HJ102, HO_166000, HO_166001, HO_174000, HO_174001, HO_183000, HO_183001, HO_216000, HO_216001, BK148, BK165, BK173, BK182, BK215, HB⟩ := hcut
            have hl183000_102 := (Kd.R_reads' HO_183000.out).1
            rw [hl183000_102] at HO_183000
            (try simp only [hl183000_102])
            (try simp only [hl183000_102] at BK148)
            (try simp only [hl183000_102] at BK165)
            (try simp only [hl183000_102] at BK173)
            (try simp only [hl183000_102] at BK182)
            (try simp only [hl183000_102] at BK215)
            (try simp only [hl183000_102] at HO_166000)
            (try simp only [hl183000_102] at HO_166001)
            (try simp only [hl183000_102] at HO_174000)
            (try simp only [hl183000_102] at HO_174001)
            (try simp only [hl183000_102] at HO_183001)
            (try simp only [hl183000_102] at HO_216000)
            (try simp only [hl183000_102] at HO_216001)
            have hl183001_102 := (Kd.R_reads' HO_183001.out).1
            rw [hl183001_102] at HO_183001
            (try simp only [hl183001_102])
            (try simp only [hl183001_102] at BK148)
            (try simp only [hl183001_102] at BK165)
            (try simp only [hl183001_102] at BK173)
            (try simp only [hl183001_102] at BK182)
            (try simp only [hl183001_102] at BK215)
            (try simp only [hl183001_102] at HO_166000)
            (try simp only [hl183001_102] at HO_166001)
            (try simp only [hl183001_102] at HO_174000)
            (try simp only [hl183001_102] at HO_174001)
            (try simp only [hl183001_102] at HO_183000)
            (try simp only [hl183001_102] at HO_216000)
            (try simp only [hl183001_102] at HO_216001)
            cases kq with
            | zero => exact absurd HA.out (by simp [laws_FnExactDictCut.j2])
            | succ kj102 =>
             have H := HA.out
             clear HA
             simp only [laws_FnExactDictCut.j2] at H
             by_cases c148 : x97_102 = true
             ·subst c148
              have H1 : (none) = some r := by rw [if_pos rfl] at H; exact H
              clear H
              have H := H1
              clear H1
              exact absurd H (by simp)
             ·replace c148 := Bool.eq_false_iff.mpr c148
              subst c148
              have H1 : ((laws_heldDict.f kj102 t197 t198 t180 1).bind fun t217 => (if t217 < 0 then (none) else (if t217 = t196 then (some true) else (none)))) = some r := by rw [if_neg (show ¬ (false = true) by decide)] at H; exact H
              clear H
              have H := H1
              clear H1
              replace H := Option.bind_eq_some_iff.mp H
              obtain ⟨t217, A1490, H⟩ := H
              replace H : (if t217 < 0 then (none) else (if t217 = t196 then (some true) else (none))) = some r := H
              have A149 := Aside0.mk A1490
              clear A1490
              by_cases c150 : t217 < 0
              ·rw [if_pos c150] at H
               exact absurd H (by simp)
              ·rw [if_neg c150] at H
               have c150b0 : decide (t217 < 0) = false := decide_eq_false c150
               clear c150
               by_cases c151 : t217 = t196
               ·rw [if_pos c151] at H
                have c151b0 : (t217 == t196) = true := beq_iff_eq.mpr c151
                have c151b1 : (t217 != t196) = false := bne_eq_false_iff_eq.mpr c151
                clear c151
                obtain rfl := Option.some.inj H
                have hnb152 := NB182_148.out
                have hnc152 := NB148_182.out
                have hnb153 := NB182_165.out
                have hnc153 := NB165_182.out
                have hnb154 := NB182_173.out
                have hnc154 := NB173_182.out
                have hnb155 := NB182_215.out
                have hnc155 := NB215_182.out
                have hcz156_0 : wc.cell? ⟨gb182, 0, none⟩ = some (.slice Ao37 t197.length co37) := (blk_cell BK182.out 0).trans rfl
                have hcz156_1 : wc.cell? ⟨gb182, 1, none⟩ = some (.slice Ao42 t198.length co42) := (blk_cell BK182.out 1).trans rfl
                have hcz156_2 : wc.cell? ⟨gb182, 2, none⟩ = some (.int .i64 t180) := (blk_cell BK182.out 2).trans rfl
                have hfz156_0 := blk_frozen BK182.out 0
                have hfz156_1 := blk_frozen BK182.out 1
                have hfz156_2 := blk_frozen BK182.out 2
                go_wp2_with (first | ((with_reducible refine gate_callee (f := 15) rfl ?_); refine goesL_ (some 100) rfl rfl Try.func15 qdc2_28 rfl #[.agg #[.slice Ao37 t197.length co37, .slice Ao42 t198.length co42, .int .i64 t180], .int .i64 1] rfl qdc2_10 ?_; (with_reducible refine (laws_heldDict.calls kj102 _ _ t197 _ _ t198 t180 1 t217 _ ?side1 ?side2 ?side3 ?side4 A149.out).mono ?_); (case side1 => exact (qdc2_8 HO_183000)); (case side2 => exact (Kd.R_reads' HO_183000.out).2.1); (case side3 => exact (qdc2_8 HO_183001)); (case side4 => exact (Kd.R_reads' HO_183001.out).2.1); rintro e w157 ⟨rfl, hb⟩; refine ⟨_, rfl, ?_⟩; have n0_ := Aside0.mk (Kd.R_below (qdc2_2 HO_166000) hb); have n1_ := Aside0.mk (Kd.R_below (qdc2_2 HO_166001) hb); have n2_ := Aside0.mk (Kd.R_below (qdc2_2 HO_174000) hb); have n3_ := Aside0.mk (Kd.R_below (qdc2_2 HO_174001) hb); have n4_ := Aside0.mk (Kd.R_below (qdc2_2 HO_183000) hb); have n5_ := Aside0.mk (Kd.R_below (qdc2_2 HO_183001) hb); have n6_ := Aside0.mk (Kd.R_below (qdc2_2 HO_216000) hb); have n7_ := Aside0.mk (Kd.R_below (qdc2_2 HO_216001) hb); have n8_ := Aside0.mk (blk_below (g := gb148) (o := .cells #[.slice A0_0 l0_0.length c0_0, .slice A0_1 l0_1.length c0_1, .int .i64 a0_2] 40 (0, 0)) (qdc2_5 BK148) hb); have n9_ := Aside0.mk (blk_below (g := gb165) (o := .cells #[.slice Ao23 t157.length co23, .slice Ao26 t160.length co26, .int .i64 t163] 25 (0, 0)) (qdc2_5 BK165) hb); have n10_ := Aside0.mk (blk_below (g := gb173) (o := .cells #[.slice Ao30 t193.length co30, .slice Ao34 t194.length co34, .int .i64 t172] 25 (0, 0)) (qdc2_5 BK173) hb); have n11_ := Aside0.mk (blk_below (g := gb182) (o := .cells #[.slice Ao37 t197.length co37, .slice Ao42 t198.length co42, .int .i64 t180] 25 (0, 0)) (qdc2_5 BK182) hb); have n12_ := Aside0.mk (blk_below (g := gb215) (o := .cells #[.slice Ao119 t207.length co119, .slice Ao125 t210.length co125, .int .i64 t213] 25 (0, 0)) (qdc2_5 BK215) hb); have n13_ := Aside0.mk (below_step (qdc2_26 HB GE148 GE165 GE173 GE182 GE215) hb); clear HO_166000; clear HO_166001; clear HO_174000; clear HO_174001; clear HO_183000; clear HO_183001; clear HO_216000; clear HO_216001; clear BK148; clear BK165; clear BK173; clear BK182; clear BK215; clear HB; have HO_166000 := n0_; have HO_166001 := n1_; have HO_174000 := n2_; have HO_174001 := n3_; have HO_183000 := n4_; have HO_183001 := n5_; have HO_216000 := n6_; have HO_216001 := n7_; have BK148 := n8_; have BK165 := n9_; have BK173 := n10_; have BK182 := n11_; have BK215 := n12_; have HB := n13_; clear n0_ n1_ n2_ n3_ n4_ n5_ n6_ n7_ n8_ n9_ n10_ n11_ n12_ n13_; (try clear hb); (try clear hb2); (try clear hk); (try clear hi)))
                go_ret
                exact ⟨by first | rfl | (simp [errW_none, errW_some] <;> rfl) | (simp [*, errW_none, errW_some] <;> rfl), by repeat (first | (with_reducible first | exact HB.out | apply below_alloc | apply pw_below_drewN | apply below_drew1 | refine below_set ?_ GE148.out | refine below_set ?_ GE165.out | refine below_set ?_ GE173.out | refine below_set ?_ GE182.out | refine below_set ?_ GE215.out) | exact HB.out)⟩
               ·rw [if_neg c151] at H
                exact absurd H (by simp)
          ·rw [if_neg c100] at H
           exact absurd H (by simp)
     ·replace c64 := Bool.eq_false_iff.mpr c64
      subst c64
      have H1 : (none) = some r := by rw [if_neg (show ¬ (false = true) by decide)] at H; exact H
      clear H
      have H := H1
      clear H1
      exact absurd H (by simp)

end Go.Proofs.Ytohilfkdfcihgaa.PDi
