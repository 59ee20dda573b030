/- The frame of DictRun's walk (a dict and a row of answers), and what its closure comes to. No condition beyond those of the theorems. -/
import Derived.Test.YtohilfkdfcihgaaGYre
import Derived.Test.YtohilfkdfcihgaaGYcut
import Derived.Test.YtohilfkdfcihgaaPDix9
import Derived.Test.YtohilfkdfcihgaaPDix17
namespace Go.Proofs.Ytohilfkdfcihgaa.PDi
open Go.RowKit Go.Proofs.YtohilfkdfcihgaaW.PrintWords Go.Proofs.YtohilfkdfcihgaaW.PrintLast Go.Proofs.YtohilfkdfcihgaaW.PrintMore
attribute [local go_sem] max2_int min2_int max_two min_two max_three min_three max_four min_four
set_option linter.unusedVariables false
set_option linter.unusedSimpArgs false

/-- The dict, and the row of the answers in its cell. -/
structure RAt (w : World) (base bd bo : Nat) (u0 u1 vo : Value) (T : List Int) (E : List S62) (live : Int) (O : List Int) : Prop where
  d : DAt w base bd u0 u1 T E live
  cell : w.heap[bo]? = some (.cells #[vo] 22 (0, 0))
  out : Kd.R (Kd.int .i64) 2 w base (fun k => some k ≠ u0.ownBlock) vo O

/-- The boxes of operations stay. -/
def Keep37 (w w' : World) : Prop := ∀ (k : Nat) (cs : Array Value), w.heap[k]? = some (.cells cs 37 (0, 0)) → w'.heap[k]? = some (.cells cs 37 (0, 0))

theorem Keep37.trans {w w1 w2 : World} (h : Keep37 w w1) (k : Keep37 w1 w2) : Keep37 w w2 := fun i cs e => k i cs (h i cs e)
theorem Keep37.of_below {w w' : World} (h : Below w.heap.size w w') : Keep37 w w' := fun i cs e => (h.block i (lt_of_block e)).trans e

theorem RAt.ne {w : World} {base bd bo : Nat} {u0 u1 vo : Value} {T : List Int} {E : List S62} {live : Int} {O : List Int} (h : RAt w base bd bo u0 u1 vo T E live O) : bd ≠ bo := by
  intro e
  have := h.d.blk
  rw [e, h.cell] at this
  simp at this

theorem RAt.below {w w' : World} {base bd bo : Nat} {u0 u1 vo : Value} {T : List Int} {E : List S62} {live : Int} {O : List Int} (h : RAt w base bd bo u0 u1 vo T E live O) (hb : Below w.heap.size w w') : RAt w' base bd bo u0 u1 vo T E live O :=
  ⟨h.d.below hb, (hb.block bo (lt_of_block h.cell)).trans h.cell, Kd.R_below h.out hb⟩

theorem own_ty {w : World} {base e : Nat} {α : Type} {d : Kd α} {ok : Nat → Prop} {v : Value} {xs : List α} (h : d.R e w base ok v xs) {k : Nat} (hk : v.ownBlock = some k) : ∃ cells, w.heap[k]? = some (.cells cells e (0, 0)) := by
  obtain ⟨i, ho⟩ := Kd.R_own h
  exact own_typed ho k hk

/-- A call of yput or ycut has changed the dict. -/
theorem RAt.dict {w w' : World} {base bd bo : Nat} {u0 u1 v0 v1 vo : Value} {T T' : List Int} {E E' : List S62} {live live' : Int} {O : List Int} (h : RAt w base bd bo u0 u1 vo T E live O)
    (hd : DAt w' base bd v0 v1 T' E' live') (ho : Only w w' bd u0 u1) (o0 : Of w u0 v0) : RAt w' base bd bo v0 v1 vo T' E' live' O ∧ Keep37 w w' := by
  refine ⟨⟨hd, ?_, ?_⟩, ?_⟩
  · exact (ho.block bo (lt_of_block h.cell) (fun e => h.ne e.symm) (Kd.R_ne h.d.sl h.cell (by decide)) (Kd.R_ne h.d.en h.cell (by decide))).trans h.cell
  · refine Kd.R_mono (Kd.R_step (Kd.R_bound h.out) (fun k hk hlt => ho.block k hlt ?_ hk.1 ?_)) (fun k hk e => ?_)
    · rintro rfl
      obtain ⟨_, _, _, q, hq, cells, hc⟩ := hk
      rw [h.d.blk] at hc
      have hq2 : q = 2 := by simpa [Kd.int, Kd.scalar] using hq
      rw [hq2] at hc
      simp at hc
    · intro e
      obtain ⟨_, _, _, q, hq, cells, hc⟩ := hk
      obtain ⟨cells', hc'⟩ := own_ty h.d.en e.symm
      rw [hc'] at hc
      have hq2 : q = 2 := by simpa [Kd.int, Kd.scalar] using hq
      rw [hq2] at hc
      simp at hc
    · rcases o0 k e.symm with e' | e'
      · exact hk.1 e'.symm
      · have := hk.2.2.1
        omega
  · intro k cs e
    refine (ho.block k (lt_of_block e) ?_ (Kd.R_ne h.d.sl e (by decide)) (Kd.R_ne h.d.en e (by decide))).trans e
    rintro rfl
    rw [h.d.blk] at e
    simp at e

/-- An answer has been appended. -/
theorem RAt.app {w w3 : World} {base bd bo : Nat} {u0 u1 vo v1 : Value} {T : List Int} {E : List S62} {live : Int} {O : List Int} {x : Int} (h : RAt w base bd bo u0 u1 vo T E live O)
    (hr : Kd.R (Kd.int .i64) 2 w3 base (fun k => some k ≠ u0.ownBlock) v1 (O ++ [x])) (hg : w.grownBy w3 vo.ownBlock) :
    RAt (w3.setCell ⟨bo, 0, none⟩ v1) base bd bo u0 u1 v1 T E live (O ++ [x]) ∧ Keep37 w (w3.setCell ⟨bo, 0, none⟩ v1) := by
  have hbo := (hg.block bo (lt_of_block h.cell) (Kd.R_ne h.out h.cell (by decide))).trans h.cell
  have hbd := (hg.block bd (lt_of_block h.d.blk) (Kd.R_ne h.out h.d.blk (by decide))).trans h.d.blk
  have hs0 : Kd.R (Kd.int .i64) 2 w base (fun k => some k ≠ vo.ownBlock) u0 T := Kd.R_of_own (Kd.own_of_R h.d.sl) (fun k hk e => h.out.1 k e.symm hk.symm)
  refine ⟨⟨⟨?_, ?_, ?_⟩, blk_put hbo 0 v1 rfl, Kd.R_set hr hbo (by decide) 0 v1⟩, ?_⟩
  · rw [Below.heap_setCell _ _ _ _ h.ne]
    exact hbd
  · exact Kd.R_set (Kd.R_mono (Kd.R_grown hs0 hg (fun k hk => hk)) (fun _ _ => trivial)) hbo (by decide) 0 v1
  · exact Kd.R_set (Kd.R_over h.d.en h.out (by decide) hg) hbo (by decide) 0 v1
  · intro k cs e
    have hk : k ≠ bo := by
      rintro rfl
      rw [h.cell] at e
      simp at e
    rw [Below.heap_setCell _ _ _ _ hk]
    exact (hg.block k (lt_of_block e) (Kd.R_ne h.out e (by decide))).trans e

theorem RAt.fresh {w : World} {base bd bo : Nat} {u0 u1 vo : Value} {T : List Int} {E : List S62} {live : Int} {O : List Int} (h : RAt w base bd bo u0 u1 vo T E live O) : ∀ k, w.heap.size ≤ k → some k ≠ u0.ownBlock := fun k hk e => by
  obtain ⟨i, ho⟩ := Kd.R_own h.d.sl
  have := own_lt ho k e.symm
  omega

def ans (b : Bool) : Int := if b = true then 1 else 0

set_option maxHeartbeats 1000000 in
set_option maxRecDepth 100000 in
theorem yes_calls (base bd bo : Nat) (u0 u1 vo : Value) (T : List Int) (E : List S62) (live : Int) (O : List Int) (b : Bool) (w0 w : World) (hR : RAt w base bd bo u0 u1 vo T E live O) (hB : Below base w0 w) (hbs : base ≤ w.heap.size) (hbo : base ≤ bo) (hb0 : base = w0.heap.size) (hO : O.length ≤ 100000) :
    Calls Try.prog 48 #[.bool b, .pointer (some ⟨bo, 0, none⟩)] w fun e w' => e = .returned (.tuple #[]) ∧ ∃ v, RAt w' base bd bo u0 u1 v T E live (O ++ [ans b]) ∧ Below base w0 w' ∧ Keep37 w w' ∧ w.heap.size ≤ w'.heap.size := by
  obtain ⟨A1, c1, rfl, hc1, hC1⟩ := Kd.R_reads hR.out
  have d0 : w.cell? ⟨bo, 0, none⟩ = some (.slice A1 O.length c1) := (blk_cell hR.cell 0).trans rfl
  have HR := Aside0.mk hR
  have HB := Aside0.mk hB
  clear hR hB hC1
  generalize hM : O.length = m at *
  have HM := Aside0.mk hM
  clear hM
  cases b with
  | true =>
    go_enter Try.func48, Try.ntmps48
    go_wp2_with (first | ((with_reducible refine gate_builtin (b := .append) (xs := #[.tmp 4, .tmp 5]) rfl ?_); at_builtin; refine Kd.R_append (Kd.int .i64) (w0 := w0) base rfl (.tmp 4) (.tmp 5) 22 2 (.int .i64 0) 8 rfl Try.underlying22 (by kernel_rfl) rfl (by decide) (by omega) (.slice A1 m c1) O (1 : Int) [.int .i64 1] (fun k => some k ≠ u0.ownBlock) (fun _ => False) rfl rfl ?aP (fun _ hk => hk.elim) ?aF ?aO ?aB ?aS ?aL ?_; (case aP => exact rfl); (case aB => exact HB.out); (case aF => exact HR.out.fresh); (case aO => exact HR.out.out); (case aS => exact hbs); (case aL => rw [HM.out]; omega); intro v1 w3 ho3 hb3 hg3 hat3; obtain ⟨A3, c3, hv3, hc3, hC3⟩ := Kd.R_reads ho3; have hl3 : (O ++ [(1 : Int)]).length = m + 1 := (by rw [List.length_append, HM.out]; rfl); rw [hl3] at hv3; subst hv3; clear hc3 hC3 hl3; have hbk := (hg3.block bo (lt_of_block HR.out.cell) (Kd.R_ne HR.out.out HR.out.cell (by decide))).trans HR.out.cell; have y1 : w3.cell? ⟨bo, 0, none⟩ = some (.slice A1 m c1) := (blk_cell hbk 0).trans rfl; have z1 : w3.frozen? ⟨bo, 0, none⟩ = false := blk_frozen hbk 0; have HO3 := Aside0.mk ho3; have HG3 := Aside0.mk hg3; have HB3 := Aside0.mk hb3; clear ho3 hb3 hg3 hat3 hbk))
    go_end0
    obtain ⟨q1, q2⟩ := HR.out.app HO3.out HG3.out
    exact ⟨rfl, _, q1, by subst hb0; exact below_set HB3.out hbo, q2, Nat.le_trans HG3.out.size (by simp)⟩
  | false =>
    go_enter Try.func48, Try.ntmps48
    go_wp2_with (first | ((with_reducible refine gate_builtin (b := .append) (xs := #[.tmp 7, .tmp 8]) rfl ?_); at_builtin; refine Kd.R_append (Kd.int .i64) (w0 := w0) base rfl (.tmp 7) (.tmp 8) 22 2 (.int .i64 0) 8 rfl Try.underlying22 (by kernel_rfl) rfl (by decide) (by omega) (.slice A1 m c1) O (0 : Int) [.int .i64 0] (fun k => some k ≠ u0.ownBlock) (fun _ => False) rfl rfl ?aP (fun _ hk => hk.elim) ?aF ?aO ?aB ?aS ?aL ?_; (case aP => exact rfl); (case aB => exact HB.out); (case aF => exact HR.out.fresh); (case aO => exact HR.out.out); (case aS => exact hbs); (case aL => rw [HM.out]; omega); intro v1 w3 ho3 hb3 hg3 hat3; obtain ⟨A3, c3, hv3, hc3, hC3⟩ := Kd.R_reads ho3; have hl3 : (O ++ [(0 : Int)]).length = m + 1 := (by rw [List.length_append, HM.out]; rfl); rw [hl3] at hv3; subst hv3; clear hc3 hC3 hl3; have hbk := (hg3.block bo (lt_of_block HR.out.cell) (Kd.R_ne HR.out.out HR.out.cell (by decide))).trans HR.out.cell; have y1 : w3.cell? ⟨bo, 0, none⟩ = some (.slice A1 m c1) := (blk_cell hbk 0).trans rfl; have z1 : w3.frozen? ⟨bo, 0, none⟩ = false := blk_frozen hbk 0; have HO3 := Aside0.mk ho3; have HG3 := Aside0.mk hg3; have HB3 := Aside0.mk hb3; clear ho3 hb3 hg3 hat3 hbk))
    go_end0
    obtain ⟨q1, q2⟩ := HR.out.app HO3.out HG3.out
    exact ⟨rfl, _, q1, by subst hb0; exact below_set HB3.out hbo, q2, Nat.le_trans HG3.out.size (by simp)⟩

end Go.Proofs.Ytohilfkdfcihgaa.PDi
