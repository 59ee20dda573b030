/- What the reference's sort asks: the state that it keeps, and less of it. No condition beyond those of the theorems. -/
import Derived.Test.YtdibbgldclgokaaGPlan
namespace Go.Proofs.Ytdibbgldclgokaa.PS
open Go.RowKit Go.Proofs.YtdibbgldclgokaaW.PrintWords Go.Proofs.YtdibbgldclgokaaW.PrintLast Go.Proofs.YtdibbgldclgokaaW.PrintMore Go.Proofs.Ytdibbgldclgokaa.SortM
set_option linter.unusedVariables false
set_option linter.unusedSimpArgs false

/-- The state in block g: who answers, what has been asked (in the row v), and whether the answers have ended. -/
structure TInv (over : Bool) (kv av : Value) (wS : World) (g : Nat) (st : Bool) (s : Asked) (C : Nat → Prop) (w : World) : Prop where
  low : ∀ k, k < wS.heap.size → w.heap[k]? = wS.heap[k]?
  base : wS.heap.size ≤ g
  obj : ∃ v, (∀ k, C k ↔ (k = g ∨ v.ownBlock = some k)) ∧ w.heap[g]? = some (.cells #[kv, .bool over, av, v, .bool st] 54 (0, 0)) ∧ Kd.R k34 34 w wS.heap.size (fun k => v.ownBlock = some k) v (asks s) ∧ v.ownBlock ≠ some g

/-- What a sort may rely on in the state that it keeps. -/
structure Teller (O : Oracle) (g : Nat) (n : Int) (b0 : Nat) (I : Bool → Asked → (Nat → Prop) → World → Prop) : Prop where
  ask : ∀ s C w (a b : Int), I false s C w → 0 ≤ a → a < n → 0 ≤ b → b < n → s.length ≤ 10000000 → Calls Try.prog 36 #[.pointer (some ⟨g, 0, none⟩), .int .i64 a, .int .i64 b] w fun e w' =>
    e = .returned (.bool ((O s.length a b).getD false)) ∧ ∃ C', I (O s.length a b).isNone (s ++ [(a, b)]) C' w' ∧ Moved C C' w w'
  stop : ∀ st s C w, I st s C w → w.cell? ⟨g, 4, none⟩ = some (.bool st)
  lt : ∀ st s C w, I st s C w → ∀ k, C k → k < w.heap.size
  keep : ∀ st s C w w', I st s C w → (∀ k, C k ∨ k < b0 → w'.heap[k]? = w.heap[k]?) → w.heap.size ≤ w'.heap.size → I st s C w'

/-- The laws of St and Mg serve here too. -/
theorem Teller.asker {O : Oracle} {g : Nat} {n : Int} {b0 : Nat} {I : Bool → Asked → (Nat → Prop) → World → Prop} (h : Teller O g n b0 I) (st : Bool) : Asker O 36 #[] 0 b0 (I st) :=
  ⟨enter_any Try.func36 (by kernel_rfl) rfl, fun s C w a b hI h1 h2 => by omega, h.lt st, h.keep st⟩

theorem TInv.stop {over st : Bool} {kv av : Value} {wS w : World} {g : Nat} {s : Asked} {C : Nat → Prop} (h : TInv over kv av wS g st s C w) : w.cell? ⟨g, 4, none⟩ = some (.bool st) := by
  obtain ⟨v, _, hb, _⟩ := h.obj
  exact (blk_cell hb 4).trans rfl
theorem TInv.lt {over st : Bool} {kv av : Value} {wS w : World} {g : Nat} {s : Asked} {C : Nat → Prop} (h : TInv over kv av wS g st s C w) (k : Nat) (hk : C k) : k < w.heap.size := by
  obtain ⟨v, hC, hb, hr, _⟩ := h.obj
  rcases (hC k).1 hk with rfl | h1
  · exact blk_lt hb
  · exact Kd.R_lt hr k h1
theorem TInv.keep {over st : Bool} {kv av : Value} {wS w w' : World} {g b0 : Nat} {s : Asked} {C : Nat → Prop} (hb0 : wS.heap.size ≤ b0) (h : TInv over kv av wS g st s C w) (hw : ∀ k, C k ∨ k < b0 → w'.heap[k]? = w.heap[k]?) : TInv over kv av wS g st s C w' := by
  obtain ⟨v, hC, hb, hr, hn⟩ := h.obj
  exact ⟨fun k hk => (hw k (.inr (by omega))).trans (h.low k hk), h.base, v, hC, (hw g (.inl ((hC g).2 (.inl rfl)))).trans hb, Kd.R_step hr (fun k hk _ => hw k (.inl ((hC k).2 (.inr hk)))), hn⟩

/-- Behind the question's append and store. -/
theorem TInv.put {over st st' : Bool} {kv av v : Value} {wS w w5 w6 : World} {g m c1 : Nat} {s : Asked} {C : Nat → Prop} {a b : Int} {A1 : Option Addr} (hlow : ∀ k, k < wS.heap.size → w.heap[k]? = wS.heap[k]?) (hbase : wS.heap.size ≤ g) (hC : ∀ k, C k ↔ (k = g ∨ v.ownBlock = some k))
    (hb : w.heap[g]? = some (.cells #[kv, .bool over, av, v, .bool st] 54 (0, 0))) (hr0 : Kd.R k34 34 w wS.heap.size (fun k => v.ownBlock = some k) v (asks s)) (hvg : v.ownBlock ≠ some g)
    (hR : Kd.R k34 34 w5 wS.heap.size (fun k => v.ownBlock = some k ∨ w.heap.size ≤ k) (.slice A1 m c1) (asks s ++ [⟨a, b⟩])) (hg : w.grownBy w5 v.ownBlock) (hat : (Value.slice A1 m c1).ownBlock = v.ownBlock ∨ ∃ q, (Value.slice A1 m c1).ownBlock = some q ∧ w.heap.size ≤ q)
    (h6 : ∀ k, k ≠ g → w6.heap[k]? = w5.heap[k]?) (hb6 : w6.heap[g]? = some (.cells #[kv, .bool over, av, .slice A1 m c1, .bool st'] 54 (0, 0))) (hos : w6.os = w5.os) (ht : w6.tape = w5.tape) (ho : w6.output = w5.output) (hs : w6.heap.size = w5.heap.size) :
    ∃ C', TInv over kv av wS g st' (s ++ [(a, b)]) C' w6 ∧ Moved C C' w w6 := by
  have hgl := blk_lt hb
  have hne : (Value.slice A1 m c1).ownBlock ≠ some g := fun e => by
    rcases hat with h1 | ⟨q, h1, h2⟩
    · exact hvg (h1.symm.trans e)
    · rw [h1] at e
      injection e with e
      omega
  refine ⟨fun k => k = g ∨ (Value.slice A1 m c1).ownBlock = some k, ⟨fun k hk => ?_, hbase, .slice A1 m c1, fun k => Iff.rfl, hb6, ?_, hne⟩, ⟨hos.trans hg.os, ht.trans hg.tape, ho.trans hg.output, by rw [hs]; exact hg.size, fun k hk hn => ?_, fun k hk => ?_⟩⟩
  · refine (h6 k (by omega)).trans ((hg.block k (by omega) (fun e => ?_)).trans (hlow k hk))
    have := Kd.R_base hr0 k e.symm
    omega
  · have hl7 : asks (s ++ [(a, b)]) = asks s ++ [⟨a, b⟩] := List.map_append
    rw [hl7]
    exact Kd.R_step (asks_tight hR) (fun k hk _ => h6 k (fun e => hne (by rw [hk, e])))
  · exact (h6 k (fun e => hn ((hC k).2 (.inl e)))).trans (hg.block k hk (fun e => hn ((hC k).2 (.inr e.symm))))
  · rcases hk with rfl | hk
    · exact .inl ((hC _).2 (.inl rfl))
    · rcases hat with h1 | ⟨q, h1, h2⟩
      · exact .inl ((hC k).2 (.inr (h1.symm.trans hk)))
      · rw [h1] at hk
        injection hk with hk
        exact .inr (by omega)

theorem less_keys {A : Option Addr} {n c g b0 : Nat} {l : List Int} {wS : World} {av : Value} (h : Kd.C (Kd.int .i64) wS A n l) (hb0 : wS.heap.size ≤ b0) : Teller (ofKeys l) g (n : Int) b0 (fun st s C w => TInv true (.slice A n c) av wS g st s C w) := by
  refine ⟨fun s C w a b hI ha0 han hb0 hbn hle => ?_, fun st s C w hI => hI.stop, fun st s C w hI => hI.lt, fun st s C w w' hI hw _ => hI.keep hb0 hw⟩
  obtain ⟨hlow, hbase, v, hC, hb, hr, hvg⟩ := hI
  obtain ⟨ad, rfl, hl1, hc1⟩ := key_at h hlow a ha0 han
  obtain ⟨_, e, hl2, hc2⟩ := key_at h hlow b hb0 hbn
  obtain rfl := Option.some.inj e
  obtain ⟨m, hm⟩ : ∃ m, s.length = m := ⟨_, rfl⟩
  have hal : (asks s).length = m := by rw [← hm]; exact List.length_map _
  rw [hm] at hle
  obtain ⟨x, hx⟩ : ∃ x, l.getD a.toNat 0 = x := ⟨_, rfl⟩
  obtain ⟨y, hy⟩ : ∃ y, l.getD b.toNat 0 = y := ⟨_, rfl⟩
  rw [hx] at hc1
  rw [hy] at hc2
  rw [show ofKeys l s.length a b = some (decide (x < y)) by unfold ofKeys; rw [hx, hy]]
  have HC1 := Aside0.mk hc1
  have HC2 := Aside0.mk hc2
  have HAL := Aside0.mk hal
  have HB := Aside0.mk hb
  have HLOW := Aside0.mk hlow
  have HCC := Aside0.mk hC
  have HR := Aside0.mk hr
  have HVG := Aside0.mk hvg
  have hk1 : w.cell? ⟨g, 1, none⟩ = some (.bool true) := (blk_cell hb 1).trans rfl
  have hk3 : w.cell? ⟨g, 3, none⟩ = some v := (blk_cell hb 3).trans rfl
  have hk4 : w.cell? ⟨g, 4, none⟩ = some (.bool false) := (blk_cell hb 4).trans rfl
  have hwz : wS.heap.size ≤ w.heap.size := by have := blk_lt hb; omega
  have HX1 := Aside0.mk (Kd.R_mono hr (ok' := fun k => v.ownBlock = some k ∨ w.heap.size ≤ k) (fun k hk => .inl hk))
  have HX2 := Aside0.mk (k34_mkM w wS.heap.size (fun _ => False) ⟨a, b⟩)
  have HX3 := Aside0.mk (show ∀ k : Nat, False → (v.ownBlock = some k ∨ w.heap.size ≤ k) ∧ some k ≠ v.ownBlock from fun k hk => hk.elim)
  have HX4 := Aside0.mk (show ∀ k, w.heap.size ≤ k → (v.ownBlock = some k ∨ w.heap.size ≤ k) from fun k hk => .inr hk)
  clear hc1 hc2 hal hb hlow hC hr hvg hx hy hm h e
  go_enter Try.func36, Try.ntmps36
  go_wp2_with (first | (at_builtin; (refine Kd.R_append k34 (w0 := w) (W := w) wS.heap.size ?hgd1 (.tmp 15) (.tmp 19) 29 34 (.agg #[(.int .i64 0), (.int .i64 0)]) 16 ?ho1 Try.underlying29 info34 rfl (by decide) (by decide) v (asks s) ⟨a, b⟩ [.int .i64 a, .int .i64 b] (fun k => v.ownBlock = some k ∨ w.heap.size ≤ k) (fun _ => False) ?hs1 ?hx1 HX2.out HX3.out HX4.out HX1.out (Below.refl _ _) hwz (by have := HAL.out; omega) ?hk1; (case hgd1 => rfl); (case ho1 => rfl); (case hs1 => rfl); (case hx1 => rfl); intro v1 w5 hR5 hb5 hg5 hat5);
                                obtain ⟨A1, c1, e1⟩ := Kd.R_slice hR5;
                                rw [List.length_append, List.length_singleton, HAL.out] at e1;
                                subst e1;
                                have hb7 := blk_grown HB.out hg5 (fun e => HVG.out e.symm);
                                have hf7 := blk_frozen hb7 3;
                                have hk7 : w5.cell? ⟨g, 3, none⟩ = some v := (blk_cell hb7 3).trans rfl;
                                have hb8 : (w5.setCell ⟨g, 3, none⟩ (.slice A1 (m + 1) c1)).heap[g]? = some (.cells #[.slice (some ad) n c, .bool true, av, .slice A1 (m + 1) c1, .bool false] 54 (0, 0)) := (blk_set hb7 3 _).trans rfl;
                                have hq0 : (w5.setCell ⟨g, 3, none⟩ (.slice A1 (m + 1) c1)).cell? ⟨g, 0, none⟩ = some (.slice (some ad) n c) := (blk_cell hb8 0).trans rfl;
                                have hq1 : (w5.setCell ⟨g, 3, none⟩ (.slice A1 (m + 1) c1)).cell? ⟨g, 1, none⟩ = some (.bool true) := (blk_cell hb8 1).trans rfl;
                                have hq2 : (w5.setCell ⟨g, 3, none⟩ (.slice A1 (m + 1) c1)).cell? ⟨g, 2, none⟩ = some (av) := (blk_cell hb8 2).trans rfl;
                                have hq3 : (w5.setCell ⟨g, 3, none⟩ (.slice A1 (m + 1) c1)).cell? ⟨g, 3, none⟩ = some (.slice A1 (m + 1) c1) := (blk_cell hb8 3).trans rfl;
                                have hz1 := (cell_of_heap (Below.heap_setCell w5 ⟨g, 3, none⟩ (.slice A1 (m + 1) c1) _ (by show (ad.add a.toNat).block ≠ g; omega))).trans ((cell_of_heap (hb5.block _ hl1)).trans HC1.out);
                                have hz2 := (cell_of_heap (Below.heap_setCell w5 ⟨g, 3, none⟩ (.slice A1 (m + 1) c1) _ (by show (ad.add b.toNat).block ≠ g; omega))).trans ((cell_of_heap (hb5.block _ hl2)).trans HC2.out);
                                have HB8 := Aside0.mk hb8;
                                have HR5 := Aside0.mk hR5;
                                have HG5 := Aside0.mk hg5;
                                have HAT := Aside0.mk hat5;
                                clear hb7 hb8 hR5 hb5 hg5 hat5 HX1 HX2 HX3 HX4) | fail)
  go_quiet (fail)
  go_wp2
  go_ret
  refine ⟨rfl, ?_⟩
  exact TInv.put (st' := false) (w6 := (w5.setCell ⟨g, 3, none⟩ (.slice A1 (m + 1) c1)).drewN nq) HLOW.out hbase HCC.out HB.out HR.out HVG.out HR5.out HG5.out HAT.out (fun k hk => Below.heap_setCell _ _ _ _ hk) (HB8.out) rfl rfl rfl (by simp)

theorem less_answers {A : Option Addr} {n c g b0 : Nat} {l : List Bool} {N : Int} {wS : World} {kv : Value} (h : Kd.C Kd.bool wS A n l) (hnc : n ≤ c) (hb0 : wS.heap.size ≤ b0) : Teller (ofAnswers l) g N b0 (fun st s C w => TInv false kv (.slice A n c) wS g st s C w) := by
  refine ⟨fun s C w a b hI ha0 han hb0 hbn hle => ?_, fun st s C w hI => hI.stop, fun st s C w hI => hI.lt, fun st s C w w' hI hw _ => hI.keep hb0 hw⟩
  obtain ⟨hlow, hbase, v, hC, hb, hr, hvg⟩ := hI
  obtain ⟨m, hm⟩ : ∃ m, s.length = m := ⟨_, rfl⟩
  have hal : (asks s).length = m := by rw [← hm]; exact List.length_map _
  rw [hm] at hle
  have hln : l.length = n := h.1
  have HO := Aside0.mk (show ofAnswers l s.length a b = l[m]? by rw [hm]; rfl)
  have HLN := Aside0.mk hln
  have HH := Aside0.mk h
  have HAL := Aside0.mk hal
  have HB := Aside0.mk hb
  have HLOW := Aside0.mk hlow
  have HCC := Aside0.mk hC
  have HR := Aside0.mk hr
  have HVG := Aside0.mk hvg
  have hk1 : w.cell? ⟨g, 1, none⟩ = some (.bool false) := (blk_cell hb 1).trans rfl
  have hk3 : w.cell? ⟨g, 3, none⟩ = some v := (blk_cell hb 3).trans rfl
  have hk4 : w.cell? ⟨g, 4, none⟩ = some (.bool false) := (blk_cell hb 4).trans rfl
  have hwz : wS.heap.size ≤ w.heap.size := by have := blk_lt hb; omega
  have HX1 := Aside0.mk (Kd.R_mono hr (ok' := fun k => v.ownBlock = some k ∨ w.heap.size ≤ k) (fun k hk => .inl hk))
  have HX2 := Aside0.mk (k34_mkM w wS.heap.size (fun _ => False) ⟨a, b⟩)
  have HX3 := Aside0.mk (show ∀ k : Nat, False → (v.ownBlock = some k ∨ w.heap.size ≤ k) ∧ some k ≠ v.ownBlock from fun k hk => hk.elim)
  have HX4 := Aside0.mk (show ∀ k, w.heap.size ≤ k → (v.ownBlock = some k ∨ w.heap.size ≤ k) from fun k hk => .inr hk)
  clear hal hb hlow hC hr hvg hm h hln
  by_cases hq : m < n
  · obtain ⟨ad, rfl, had, hca⟩ := answer_at HH.out HLOW.out m hq
    have hgo : l[m]? = some (l.getD m false) := by
      rw [List.getD_eq_getElem?_getD, List.getElem?_eq_getElem (by have := HLN.out; omega)]
      rfl
    rw [HO.out, hgo]
    obtain ⟨d, hd⟩ : ∃ d, l.getD m false = d := ⟨_, rfl⟩
    rw [hd] at hca ⊢
    have HCA := Aside0.mk hca
    clear hca hgo hd HO HH
    go_enter Try.func36, Try.ntmps36
    go_wp2_with (first | (at_builtin; (refine Kd.R_append k34 (w0 := w) (W := w) wS.heap.size ?hgd1 (.tmp 15) (.tmp 19) 29 34 (.agg #[(.int .i64 0), (.int .i64 0)]) 16 ?ho1 Try.underlying29 info34 rfl (by decide) (by decide) v (asks s) ⟨a, b⟩ [.int .i64 a, .int .i64 b] (fun k => v.ownBlock = some k ∨ w.heap.size ≤ k) (fun _ => False) ?hs1 ?hx1 HX2.out HX3.out HX4.out HX1.out (Below.refl _ _) hwz (by have := HAL.out; omega) ?hk1; (case hgd1 => rfl); (case ho1 => rfl); (case hs1 => rfl); (case hx1 => rfl); intro v1 w5 hR5 hb5 hg5 hat5);
                                  obtain ⟨A1, c1, e1⟩ := Kd.R_slice hR5;
                                  rw [List.length_append, List.length_singleton, HAL.out] at e1;
                                  subst e1;
                                  have hb7 := blk_grown HB.out hg5 (fun e => HVG.out e.symm);
                                  have hf7 := blk_frozen hb7 3;
                                  have hk7 : w5.cell? ⟨g, 3, none⟩ = some v := (blk_cell hb7 3).trans rfl;
                                  have hb8 : (w5.setCell ⟨g, 3, none⟩ (.slice A1 (m + 1) c1)).heap[g]? = some (.cells #[kv, .bool false, .slice (some ad) n c, .slice A1 (m + 1) c1, .bool false] 54 (0, 0)) := (blk_set hb7 3 _).trans rfl;
                                  have hq0 : (w5.setCell ⟨g, 3, none⟩ (.slice A1 (m + 1) c1)).cell? ⟨g, 0, none⟩ = some (kv) := (blk_cell hb8 0).trans rfl;
                                  have hq1 : (w5.setCell ⟨g, 3, none⟩ (.slice A1 (m + 1) c1)).cell? ⟨g, 1, none⟩ = some (.bool false) := (blk_cell hb8 1).trans rfl;
                                  have hq2 : (w5.setCell ⟨g, 3, none⟩ (.slice A1 (m + 1) c1)).cell? ⟨g, 2, none⟩ = some (.slice (some ad) n c) := (blk_cell hb8 2).trans rfl;
                                  have hq3 : (w5.setCell ⟨g, 3, none⟩ (.slice A1 (m + 1) c1)).cell? ⟨g, 3, none⟩ = some (.slice A1 (m + 1) c1) := (blk_cell hb8 3).trans rfl;
                                  have hz1 := (cell_of_heap (Below.heap_setCell w5 ⟨g, 3, none⟩ (.slice A1 (m + 1) c1) _ (by show (ad.add m).block ≠ g; omega))).trans ((cell_of_heap (hb5.block _ had)).trans HCA.out);
                                  have HB8 := Aside0.mk hb8;
                                  have HR5 := Aside0.mk hR5;
                                  have HG5 := Aside0.mk hg5;
                                  have HAT := Aside0.mk hat5;
                                  clear hb7 hb8 hR5 hb5 hg5 hat5 HX1 HX2 HX3 HX4) | fail)
    go_quiet (fail)
    go_wp2_with fail
    go_quiet (fail)
    go_wp2
    go_ret
    refine ⟨rfl, ?_⟩
    exact TInv.put (st' := false) (w6 := _) HLOW.out hbase HCC.out HB.out HR.out HVG.out HR5.out HG5.out HAT.out (fun k hk => Below.heap_setCell _ _ _ _ hk) (HB8.out) rfl rfl rfl (by simp)
  · have hq2 : n ≤ m := by omega
    rw [HO.out, List.getElem?_eq_none (by have := HLN.out; omega)]
    clear HO HH hq
    go_enter Try.func36, Try.ntmps36
    go_wp2_with (first | (at_builtin; (refine Kd.R_append k34 (w0 := w) (W := w) wS.heap.size ?hgd2 (.tmp 15) (.tmp 19) 29 34 (.agg #[(.int .i64 0), (.int .i64 0)]) 16 ?ho2 Try.underlying29 info34 rfl (by decide) (by decide) v (asks s) ⟨a, b⟩ [.int .i64 a, .int .i64 b] (fun k => v.ownBlock = some k ∨ w.heap.size ≤ k) (fun _ => False) ?hs2 ?hx2 HX2.out HX3.out HX4.out HX1.out (Below.refl _ _) hwz (by have := HAL.out; omega) ?hk2; (case hgd2 => rfl); (case ho2 => rfl); (case hs2 => rfl); (case hx2 => rfl); intro v1 w5 hR5 hb5 hg5 hat5);
                                  obtain ⟨A1, c1, e1⟩ := Kd.R_slice hR5;
                                  rw [List.length_append, List.length_singleton, HAL.out] at e1;
                                  subst e1;
                                  have hb7 := blk_grown HB.out hg5 (fun e => HVG.out e.symm);
                                  have hf7 := blk_frozen hb7 3;
                                  have hk7 : w5.cell? ⟨g, 3, none⟩ = some v := (blk_cell hb7 3).trans rfl;
                                  have hb8 : (w5.setCell ⟨g, 3, none⟩ (.slice A1 (m + 1) c1)).heap[g]? = some (.cells #[kv, .bool false, .slice A n c, .slice A1 (m + 1) c1, .bool false] 54 (0, 0)) := (blk_set hb7 3 _).trans rfl;
                                  have hq0 : (w5.setCell ⟨g, 3, none⟩ (.slice A1 (m + 1) c1)).cell? ⟨g, 0, none⟩ = some (kv) := (blk_cell hb8 0).trans rfl;
                                  have hq1 : (w5.setCell ⟨g, 3, none⟩ (.slice A1 (m + 1) c1)).cell? ⟨g, 1, none⟩ = some (.bool false) := (blk_cell hb8 1).trans rfl;
                                  have hq2 : (w5.setCell ⟨g, 3, none⟩ (.slice A1 (m + 1) c1)).cell? ⟨g, 2, none⟩ = some (.slice A n c) := (blk_cell hb8 2).trans rfl;
                                  have hq3 : (w5.setCell ⟨g, 3, none⟩ (.slice A1 (m + 1) c1)).cell? ⟨g, 3, none⟩ = some (.slice A1 (m + 1) c1) := (blk_cell hb8 3).trans rfl;
                                  have hf8 := blk_frozen hb8 4;
                                  have hq4 : (w5.setCell ⟨g, 3, none⟩ (.slice A1 (m + 1) c1)).cell? ⟨g, 4, none⟩ = some (.bool false) := (blk_cell hb8 4).trans rfl;
                                  have HB9 := Aside0.mk (show ((w5.setCell ⟨g, 3, none⟩ (.slice A1 (m + 1) c1)).setCell ⟨g, 4, none⟩ (.bool true)).heap[g]? = some (.cells #[kv, .bool false, .slice A n c, .slice A1 (m + 1) c1, .bool true] 54 (0, 0)) from (blk_set hb8 4 _).trans rfl);
                                  have HB8 := Aside0.mk hb8;
                                  have HR5 := Aside0.mk hR5;
                                  have HG5 := Aside0.mk hg5;
                                  have HAT := Aside0.mk hat5;
                                  clear hb7 hb8 hR5 hb5 hg5 hat5 HX1 HX2 HX3 HX4) | fail)
    go_quiet (fail)
    go_wp2
    go_ret
    refine ⟨rfl, ?_⟩
    exact TInv.put (st' := true) (w6 := ((w5.setCell ⟨g, 3, none⟩ (.slice A1 (m + 1) c1)).drewN nq).setCell ⟨g, 4, none⟩ (.bool true)) HLOW.out hbase HCC.out HB.out HR.out HVG.out HR5.out HG5.out HAT.out (fun k hk => (Below.heap_setCell _ _ _ _ hk).trans (Below.heap_setCell _ _ _ _ hk)) (HB9.out) rfl rfl rfl (by simp)

end Go.Proofs.Ytdibbgldclgokaa.PS
