/- What SortPlan of the program comes to. No condition beyond those of the theorems. -/
import Derived.Test.YtdibbgldclgokaaGKeys
namespace Go.Proofs.Ytdibbgldclgokaa.PS
open Go.RowKit Go.Proofs.YtdibbgldclgokaaW.PrintWords Go.Proofs.YtdibbgldclgokaaW.PrintLast Go.Proofs.YtdibbgldclgokaaW.PrintMore Go.Proofs.Ytdibbgldclgokaa.SortM
set_option linter.unusedVariables false
set_option linter.unusedSimpArgs false

/-- Answers that are told one by one. -/
def ofAnswers (l : List Bool) : Oracle := fun k _ _ => l[k]?
def asks (s : Asked) : List S34 := s.map (fun p => ⟨p.1, p.2⟩)

def impl_SortPlan.f (a0 : Int) (l1 : List Bool) : Option (List S34 × List Int × Bool) :=
  if a0 < 0 ∨ 2000 < a0 then some ([], [], false) else some (asks (sort (ofAnswers l1) a0).1, (sort (ofAnswers l1) a0).2.getD [], (sort (ofAnswers l1) a0).2.isSome)

/-- Where the answers and the questions lie: the box of the answers in block g, the cell of the questions in block g + 1, their row v. -/
structure PlanInv (A : Option Addr) (n c : Nat) (wS : World) (s : Asked) (C : Nat → Prop) (w : World) : Prop where
  low : ∀ k, k < wS.heap.size → w.heap[k]? = wS.heap[k]?
  box : w.heap[wS.heap.size]? = some (.cells #[.slice A n c] 28)
  row : ∃ v, (∀ k, C k ↔ (k = wS.heap.size + 1 ∨ v.ownBlock = some k)) ∧ w.heap[wS.heap.size + 1]? = some (.cells #[v] 29) ∧ Kd.R k34 34 w (wS.heap.size + 2) (fun k => v.ownBlock = some k) v (asks s)

theorem answer_at {w wS : World} {A : Option Addr} {n : Nat} {l : List Bool} (h : Kd.C Kd.bool wS A n l) (hlow : ∀ k, k < wS.heap.size → w.heap[k]? = wS.heap[k]?) (i : Nat) (h1 : i < n) :
    ∃ ad, A = some ad ∧ (ad.add i).block < wS.heap.size ∧ w.cell? (ad.add i) = some (.bool (l.getD i false)) := by
  obtain ⟨ad, c, e, _, hK, hc⟩ := Kd.C_get h false (i : Int) (by omega) (by omega)
  rw [Int.toNat_natCast] at hK hc
  have h2 := hc 0 _ (by rw [show c = [Value.bool (l.getD i false)] from hK]; rfl)
  have e2 : i * Kd.bool.sz + 0 = i := by show i * 1 + 0 = i; omega
  rw [e2] at h2
  have hlt := World.block_lt_of_cell? _ _ h2
  exact ⟨ad, e, hlt, (cell_of_heap (hlow _ hlt)).trans h2⟩

theorem asks_tight {w : World} {base : Nat} {ok : Nat → Prop} {v : Value} {xs : List S34} (h : Kd.R k34 34 w base ok v xs) : Kd.R k34 34 w base (fun k => v.ownBlock = some k) v xs := by
  obtain ⟨h0, inner, ho, hr⟩ := h
  exact ⟨fun k hk => hk, inner, ho, hr.imp_ (fun _ _ hp => hp)⟩
theorem plan_asker {A : Option Addr} {n c b0 : Nat} {l : List Bool} {wS : World} {N : Int} (h : Kd.C Kd.bool wS A n l) (hnc : n ≤ c) (hb : wS.heap.size + 1 < b0) :
    Asker (ofAnswers l) 29 #[.pointer (some ⟨wS.heap.size + 1, 0, none⟩), .pointer (some ⟨wS.heap.size, 0, none⟩)] N b0 (PlanInv A n c wS) := by
  refine ⟨enter_any Try.func29 (by kernel_rfl) rfl, fun s C w a b hI ha0 han hb0 hbn hle => ?_, fun s C w hI k hk => ?_, fun s C w w' hI hw hs => ?_⟩
  · obtain ⟨hlow, hbox, v, hC, hcell, hrow⟩ := hI
    have hln : l.length = n := h.1
    obtain ⟨m, hm⟩ : ∃ m, s.length = m := ⟨_, rfl⟩
    have hal : (asks s).length = m := by rw [← hm]; exact List.length_map _
    have HO := Aside0.mk (show ofAnswers l s.length a b = l[m]? by rw [hm]; rfl)
    obtain ⟨g, hg⟩ : ∃ g, wS.heap.size = g := ⟨_, rfl⟩
    rw [hm] at hle
    rw [hg] at hbox hcell hC hrow hlow
    have HM := Aside0.mk hm
    have HLW := Aside0.mk hlow
    have HBX := Aside0.mk hbox
    have HCL := Aside0.mk hcell
    have HC := Aside0.mk hC
    have HROW := Aside0.mk hrow
    have HLN := Aside0.mk hln
    have HAL := Aside0.mk hal
    have HH := Aside0.mk h
    have hx1 := cell_of_one hcell
    have hwz : g + 2 ≤ w.heap.size := by have := (Array.getElem?_eq_some_iff.1 hcell).1; omega
    have HX1 := Aside0.mk (Kd.R_mono hrow (ok' := fun k => v.ownBlock = some k ∨ w.heap.size ≤ k) (fun k hk => .inl hk))
    have HX2 := Aside0.mk (k34_mkM w (g + 2) (fun _ => False) ⟨a, b⟩)
    have HX3 := Aside0.mk (show ∀ k : Nat, False → (v.ownBlock = some k ∨ w.heap.size ≤ k) ∧ some k ≠ v.ownBlock from fun k hk => hk.elim)
    have HX4 := Aside0.mk (show ∀ k, w.heap.size ≤ k → (v.ownBlock = some k ∨ w.heap.size ≤ k) from fun k hk => .inr hk)
    clear hlow hbox hcell hC hrow h hm hal hln
    by_cases hq : m < n
    · obtain ⟨ad, rfl, had, hca⟩ := answer_at HH.out (fun k hk => HLW.out k (by omega)) m hq
      rw [hg] at had
      have hgo : l[m]? = some (l.getD m false) := by
        rw [List.getD_eq_getElem?_getD, List.getElem?_eq_getElem (by have := HLN.out; omega)]
        rfl
      rw [HO.out, hgo]
      obtain ⟨d, hd⟩ : ∃ d, l.getD m false = d := ⟨_, rfl⟩
      rw [hd] at hca ⊢
      have HCA := Aside0.mk hca
      clear hca hgo hd HO HH
      go_enter Try.func29, Try.ntmps29
      go_wp2_with (first | (at_builtin; (refine Kd.R_append k34 (w0 := w) (W := w) (g + 2) ?hgd1 (.tmp 8) (.tmp 12) 29 34 (.agg #[(.int .i64 0), (.int .i64 0)]) 16 ?ho1 Try.underlying29 info34 rfl (by decide) (by decide) v (asks s) ⟨a, b⟩ [.int .i64 a, .int .i64 b] (fun k => v.ownBlock = some k ∨ w.heap.size ≤ k) (fun _ => False) ?hs1 ?hx1 HX2.out HX3.out HX4.out HX1.out (Below.refl _ _) hwz (by have := HAL.out; omega) ?hk1; (case hgd1 => rfl); (case ho1 => rfl); (case hs1 => rfl); (case hx1 => rfl); intro v1 w5 hR5 hb5 hg5 hat5);
                                  obtain ⟨A1, c1, e1⟩ := Kd.R_slice hR5;
                                  rw [List.length_append, List.length_singleton, HAL.out] at e1;
                                  subst e1;
                                  have hh7 : w5.heap[g + 1]? = some (.cells #[v] 29) := (hg5.block (g + 1) (by omega) (fun e => by have := Kd.R_base HX1.out (g + 1) e.symm; omega)).trans HCL.out;
                                  have hf7 := free_of_one hh7; have hk7 := cell_of_one hh7;
                                  have hk8 := cell_of_one (one_setCell (u := .slice A1 (m + 1) c1) hh7);
                                  have hb7 : w5.heap[g]? = some (.cells #[.slice (some ad) n c] 28) := (hb5.block g (by omega)).trans HBX.out;
                                  have hb8 : (w5.setCell ⟨g + 1, 0, none⟩ (.slice A1 (m + 1) c1)).heap[g]? = some (.cells #[.slice (some ad) n c] 28) := (Below.heap_setCell _ _ _ _ (by show g ≠ g + 1; omega)).trans hb7;
                                  have hx8 := cell_of_one hb8;
                                  have HLW5 := Aside0.mk (show ∀ k, k < g → (w5.setCell ⟨g + 1, 0, none⟩ (.slice A1 (m + 1) c1)).heap[k]? = wS.heap[k]? from fun k hk => (Below.heap_setCell _ _ _ _ (by show k ≠ g + 1; omega)).trans ((hb5.block k (by omega)).trans (HLW.out k hk)));
                                  have hz8 := (cell_of_heap (Below.heap_setCell w5 ⟨g + 1, 0, none⟩ (.slice A1 (m + 1) c1) _ (by show (ad.add m).block ≠ g + 1; omega))).trans ((cell_of_heap (hb5.block _ (by omega))).trans HCA.out);
                                  have HB8 := Aside0.mk hb8;
                                  have HH7 := Aside0.mk hh7;
                                  have HR5 := Aside0.mk hR5;
                                  have HG5 := Aside0.mk hg5;
                                  have HAT := Aside0.mk hat5;
                                  clear hh7 hb7 hb8 hR5 hb5 hg5 hat5 HX1 HX2 HX3 HX4) | fail)
      go_ret2
      have hl7 : asks (s ++ [(a, b)]) = asks s ++ [⟨a, b⟩] := List.map_append
      have hvb : ∀ k, (Value.slice A1 (m + 1) c1).ownBlock = some k → v.ownBlock = some k ∨ w.heap.size ≤ k := fun k hk => by
        rcases HAT.out with h1 | ⟨q, h1, h2⟩
        · exact .inl (h1.symm.trans hk)
        · rw [h1] at hk
          injection hk with hk
          exact .inr (by omega)
      refine ⟨rfl, fun k => k = g + 1 ∨ (Value.slice A1 (m + 1) c1).ownBlock = some k, ⟨fun k hk => HLW5.out k (by omega), by rw [hg]; exact HB8.out, .slice A1 (m + 1) c1, fun k => by rw [hg], by rw [hg]; exact one_setCell HH7.out, ?_⟩, ⟨HG5.out.os, HG5.out.tape, HG5.out.output, ?_, fun k hk hn => ?_, fun k hk => ?_⟩⟩
      · rw [hg, hl7]
        refine Kd.R_step (asks_tight HR5.out) (fun k hk _ => Below.heap_setCell _ _ _ _ ?_)
        have := Kd.R_base HR5.out k hk
        show k ≠ g + 1
        omega
      · have := HG5.out.size
        show w.heap.size ≤ (w5.setCell _ _).heap.size
        simpa using this
      · refine (Below.heap_setCell _ _ _ _ (fun e => hn ((HC.out k).2 (.inl e)))).trans (HG5.out.block k hk (fun e => hn ((HC.out k).2 (.inr e.symm))))
      · rcases hk with rfl | hk
        · exact .inl ((HC.out _).2 (.inl rfl))
        · rcases hvb k hk with h1 | h1
          · exact .inl ((HC.out k).2 (.inr h1))
          · exact .inr h1
    · have hq2 : n ≤ m := by omega
      rw [HO.out, List.getElem?_eq_none (by have := HLN.out; omega)]
      go_enter Try.func29, Try.ntmps29
      go_wp2_with (first | (at_builtin; (refine Kd.R_append k34 (w0 := w) (W := w) (g + 2) ?hgd2 (.tmp 8) (.tmp 12) 29 34 (.agg #[(.int .i64 0), (.int .i64 0)]) 16 ?ho2 Try.underlying29 info34 rfl (by decide) (by decide) v (asks s) ⟨a, b⟩ [.int .i64 a, .int .i64 b] (fun k => v.ownBlock = some k ∨ w.heap.size ≤ k) (fun _ => False) ?hs2 ?hx2 HX2.out HX3.out HX4.out HX1.out (Below.refl _ _) hwz (by have := HAL.out; omega) ?hk2; (case hgd2 => rfl); (case ho2 => rfl); (case hs2 => rfl); (case hx2 => rfl); intro v1 w5 hR5 hb5 hg5 hat5);
                                  obtain ⟨A1, c1, e1⟩ := Kd.R_slice hR5;
                                  rw [List.length_append, List.length_singleton, HAL.out] at e1;
                                  subst e1;
                                  have hh7 : w5.heap[g + 1]? = some (.cells #[v] 29) := (hg5.block (g + 1) (by omega) (fun e => by have := Kd.R_base HX1.out (g + 1) e.symm; omega)).trans HCL.out;
                                  have hf7 := free_of_one hh7; have hk7 := cell_of_one hh7;
                                  have hk8 := cell_of_one (one_setCell (u := .slice A1 (m + 1) c1) hh7);
                                  have hb7 : w5.heap[g]? = some (.cells #[.slice A n c] 28) := (hb5.block g (by omega)).trans HBX.out;
                                  have hb8 : (w5.setCell ⟨g + 1, 0, none⟩ (.slice A1 (m + 1) c1)).heap[g]? = some (.cells #[.slice A n c] 28) := (Below.heap_setCell _ _ _ _ (by show g ≠ g + 1; omega)).trans hb7;
                                  have hx8 := cell_of_one hb8;
                                  have HLW5 := Aside0.mk (show ∀ k, k < g → (w5.setCell ⟨g + 1, 0, none⟩ (.slice A1 (m + 1) c1)).heap[k]? = wS.heap[k]? from fun k hk => (Below.heap_setCell _ _ _ _ (by show k ≠ g + 1; omega)).trans ((hb5.block k (by omega)).trans (HLW.out k hk)));
                                  have HB8 := Aside0.mk hb8;
                                  have HH7 := Aside0.mk hh7;
                                  have HR5 := Aside0.mk hR5;
                                  have HG5 := Aside0.mk hg5;
                                  have HAT := Aside0.mk hat5;
                                  clear hh7 hb7 hb8 hR5 hb5 hg5 hat5 HX1 HX2 HX3 HX4) | fail)
      go_ret2
      have hl7 : asks (s ++ [(a, b)]) = asks s ++ [⟨a, b⟩] := List.map_append
      have hvb : ∀ k, (Value.slice A1 (m + 1) c1).ownBlock = some k → v.ownBlock = some k ∨ w.heap.size ≤ k := fun k hk => by
        rcases HAT.out with h1 | ⟨q, h1, h2⟩
        · exact .inl (h1.symm.trans hk)
        · rw [h1] at hk
          injection hk with hk
          exact .inr (by omega)
      refine ⟨rfl, fun k => k = g + 1 ∨ (Value.slice A1 (m + 1) c1).ownBlock = some k, ⟨fun k hk => HLW5.out k (by omega), by rw [hg]; exact HB8.out, .slice A1 (m + 1) c1, fun k => by rw [hg], by rw [hg]; exact one_setCell HH7.out, ?_⟩, ⟨HG5.out.os, HG5.out.tape, HG5.out.output, ?_, fun k hk hn => ?_, fun k hk => ?_⟩⟩
      · rw [hg, hl7]
        refine Kd.R_step (asks_tight HR5.out) (fun k hk _ => Below.heap_setCell _ _ _ _ ?_)
        have := Kd.R_base HR5.out k hk
        show k ≠ g + 1
        omega
      · have := HG5.out.size
        show w.heap.size ≤ (w5.setCell _ _).heap.size
        simpa using this
      · refine (Below.heap_setCell _ _ _ _ (fun e => hn ((HC.out k).2 (.inl e)))).trans (HG5.out.block k hk (fun e => hn ((HC.out k).2 (.inr e.symm))))
      · rcases hk with rfl | hk
        · exact .inl ((HC.out _).2 (.inl rfl))
        · rcases hvb k hk with h1 | h1
          · exact .inl ((HC.out k).2 (.inr h1))
          · exact .inr h1
  · obtain ⟨v, hC, hcell, hrow⟩ := hI.row
    rcases (hC k).1 hk with rfl | h1
    · exact (Array.getElem?_eq_some_iff.1 hcell).1
    · exact Kd.R_lt hrow k h1
  · have hz : ∀ k, k < b0 → w'.heap[k]? = w.heap[k]? := fun k hk => hw k (.inr hk)
    obtain ⟨v, hC, hcell, hrow⟩ := hI.row
    exact ⟨fun k hk => (hz k (by omega)).trans (hI.low k hk), (hz _ (by omega)).trans hI.box, v, hC, (hz _ hb).trans hcell, Kd.R_step hrow (fun k hk _ => hw k (.inl ((hC k).2 (.inr hk))))⟩

theorem impl_SortPlan.calls (a0 : Int) (A1 : Option Addr) (c1 : Nat) (l1 : List Bool) (r1 : List S34) (r2 : List Int) (r3 : Bool) (w : World) (hr1 : Kd.C Kd.bool w A1 l1.length l1) (hc1 : l1.length ≤ c1) (h : impl_SortPlan.f a0 l1 = some (r1, r2, r3)) :
    Calls Try.prog 9 #[.int .i64 a0, .slice A1 l1.length c1] w fun e w' => ∃ v1_ v2_ : Value, e = .returned (.tuple #[v1_, v2_, .bool r3]) ∧ Kd.R k34 34 w' w.heap.size (fun k_ => some k_ ≠ (v2_ : Value).ownBlock) v1_ r1 ∧ Kd.R (Kd.int .i64) 2 w' w.heap.size (fun k_ => some k_ ≠ (v1_ : Value).ownBlock) v2_ r2 ∧ Below w.heap.size w w' := by
  obtain ⟨n, hn⟩ : ∃ n, l1.length = n := ⟨_, rfl⟩
  have HN := Aside0.mk hn
  have H := Aside0.mk h
  have HR := Aside0.mk hr1
  rw [hn] at hc1 ⊢
  have HC := Aside0.mk hc1
  clear hr1 h hc1 hn
  by_cases hc : a0 < 0 ∨ 2000 < a0
  · have hr : r1 = [] ∧ r2 = [] ∧ r3 = false := by
      have h1 := H.out
      unfold impl_SortPlan.f at h1
      rw [if_pos hc] at h1
      injection h1 with h1
      injection h1 with h2 h3
      injection h3 with h3 h4
      exact ⟨h2.symm, h3.symm, h4.symm⟩
    obtain ⟨rfl, rfl, rfl⟩ := hr
    clear H
    by_cases hc0 : a0 < 0
    · clear hc
      go_enter Try.func9, Try.ntmps9
      go_wp2
      go_ret3
      exact ⟨_, _, rfl, Kd.R_nil _ _ _ _ _, Kd.R_nil _ _ _ _ _, below_alloc (Below.refl _ _) _⟩
    · have hc2 : 2000 < a0 := by omega
      clear hc
      go_enter Try.func9, Try.ntmps9
      go_wp2
      go_ret3
      exact ⟨_, _, rfl, Kd.R_nil _ _ _ _ _, Kd.R_nil _ _ _ _ _, below_alloc (Below.refl _ _) _⟩
  · obtain ⟨N, rfl⟩ : ∃ N : Nat, a0 = (N : Int) := ⟨a0.toNat, by omega⟩
    have hN : N ≤ 2000 := by omega
    have hr : asks (sort (ofAnswers l1) (N : Int)).1 = r1 ∧ (sort (ofAnswers l1) (N : Int)).2.getD [] = r2 ∧ (sort (ofAnswers l1) (N : Int)).2.isSome = r3 := by
      have h1 := H.out
      unfold impl_SortPlan.f at h1
      rw [if_neg hc] at h1
      injection h1 with h1
      injection h1 with h2 h3
      injection h3 with h3 h4
      exact ⟨h2, h3, h4⟩
    have HR2 := Aside0.mk hr
    have hC2 := HR.out
    rw [HN.out] at hC2
    have HA := Aside0.mk (plan_asker (c := c1) (N := (N : Int)) (b0 := ((w.alloc (Obj.cells #[Value.slice A1 n c1] 28)).alloc (Obj.cells #[Value.slice none 0 0] 29)).heap.size) hC2 HC.out (by simp))
    have HI := Aside0.mk (show PlanInv A1 n c1 w [] (fun k => k = w.heap.size + 1) ((w.alloc (Obj.cells #[Value.slice A1 n c1] 28)).alloc (Obj.cells #[Value.slice none 0 0] 29)) from by
      refine ⟨fun k hk => ?_, ?_, .slice none 0 0, fun k => ⟨.inl, fun h => h.elim id (fun h => by simp [Value.ownBlock] at h)⟩, ?_, Kd.R_nil _ _ _ _ _⟩
      · rw [Below.heap_alloc _ _ k (by simp; omega), Below.heap_alloc _ _ k hk]
      · rw [Below.heap_alloc _ _ _ (by simp)]
        exact heap_alloc_new _ _
      · have h1 := heap_alloc_new (w.alloc (Obj.cells #[Value.slice A1 n c1] 28)) (Obj.cells #[Value.slice none 0 0] 29)
        simpa using h1)
    clear hr hC2 H HR hc
    have hN2 : (N : Int) ≤ 2000 := by omega
    go_enter Try.func9, Try.ntmps9
    go_wp2_with fail
    refine Calls.mono (ysort_calls N hN _ HA.out _ HI.out) ?_
    rintro e w' ⟨v2, C', rfl, hI, hm, hv⟩
    obtain ⟨v1, hC, hcell, hrow⟩ := hI.row
    have hct := cell_of_one hcell
    rw [HR2.out.1] at hrow
    rw [HR2.out.2.1] at hv
    have hbs : w.heap.size ≤ ((w.alloc (Obj.cells #[Value.slice A1 n c1] 28)).alloc (Obj.cells #[Value.slice none 0 0] 29)).heap.size := by simp; omega
    have HV1 := Aside0.mk (Kd.R_mono (Kd.R_lower hrow (show w.heap.size ≤ w.heap.size + 2 by omega)) (ok' := fun k_ => some k_ ≠ v2.ownBlock) (fun k hk e => hv.1 k e.symm ((hC k).2 (.inr hk))))
    have HV2 := Aside0.mk (Kd.R_mono (Kd.R_lower hv hbs) (ok' := fun k_ => some k_ ≠ v1.ownBlock) (fun k hk e => hk ((hC k).2 (.inr e.symm))))
    have HB := Aside0.mk (show Below w.heap.size w w' from Below.trans (below_alloc (below_alloc (Below.refl _ _) (Obj.cells #[Value.slice A1 n c1] 28)) (Obj.cells #[Value.slice none 0 0] 29)) ⟨hm.os, hm.tape, hm.output, hm.size, fun k hk => hm.block k (by omega) (show ¬ k = w.heap.size + 1 by omega)⟩)
    have HB3 := Aside0.mk HR2.out.2.2
    rw [HB3.out]
    clear hI hm hv HA HI HR2 hC hcell hrow hbs
    go_wp2
    go_ret3
    exact ⟨_, _, rfl, HV1.out, HV2.out, HB.out⟩

end Go.Proofs.Ytdibbgldclgokaa.PS
