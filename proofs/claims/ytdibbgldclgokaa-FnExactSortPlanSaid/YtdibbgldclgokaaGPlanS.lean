/- What SortPlan of the reference comes to. No condition beyond those of the theorems. -/
import Derived.Test.YtdibbgldclgokaaGKeysS
namespace Go.Proofs.Ytdibbgldclgokaa.PS
open Go.RowKit Go.Proofs.YtdibbgldclgokaaW.PrintWords Go.Proofs.YtdibbgldclgokaaW.PrintLast Go.Proofs.YtdibbgldclgokaaW.PrintMore Go.Proofs.Ytdibbgldclgokaa.SortM
set_option linter.unusedVariables false
set_option linter.unusedSimpArgs false

def spec_SortPlan.f (a0 : Int) (l1 : List Bool) : Option (List S34 × List Int × Bool) :=
  if a0 < 0 ∨ 2000 < a0 then some ([], [], false) else some (asks (sort (ofAnswers l1) a0).1, (sort (ofAnswers l1) a0).2.getD [], (sort (ofAnswers l1) a0).2.isSome)

theorem asks_none (w : World) {b0 : Nat} (hb : b0 ≤ w.heap.size) (ok : Nat → Prop) (hok : ok w.heap.size) : Kd.R k34 34 (w.alloc (.cells #[] 34)) b0 ok (.slice (some ⟨w.heap.size, 0, none⟩) 0 0) [] :=
  ⟨fun k hk => by
    have e2 : w.heap.size = k := by simpa [Value.ownBlock] using hk
    rw [← e2]; exact hok, [], World.ownsRow_lit (base := b0) (e := 34) (size := 2) w #[] 0 hb (by decide) rfl, ⟨rfl, fun j p hj => by simp at hj⟩⟩
theorem ints_none (w : World) {b0 : Nat} (hb : b0 ≤ w.heap.size) (ok : Nat → Prop) (hok : ok w.heap.size) : Kd.R (Kd.int .i64) 2 (w.alloc (.cells #[] 2)) b0 ok (.slice (some ⟨w.heap.size, 0, none⟩) 0 0) [] :=
  Kd.R_of_own (World.ownsRow_lit (base := b0) (e := 2) (size := 1) w #[] 0 hb (by decide) rfl) (fun k hk => by
    have e2 : w.heap.size = k := by simpa [Value.ownBlock] using hk
    rw [← e2]; exact hok)

theorem spec_SortPlan.calls (a0 : Int) (A1 : Option Addr) (c1 : Nat) (l1 : List Bool) (r1 : List S34) (r2 : List Int) (r3 : Bool) (w : World) (hr1 : Kd.C Kd.bool w A1 l1.length l1) (hc1 : l1.length ≤ c1) (h : spec_SortPlan.f a0 l1 = some (r1, r2, r3)) :
    Calls Try.prog 16 #[.int .i64 a0, .slice A1 l1.length c1] w fun e w' => ∃ v1_ v2_ : Value, e = .returned (.tuple #[v1_, v2_, .bool r3]) ∧ Kd.R k34 34 w' w.heap.size (fun k_ => some k_ ≠ (v2_ : Value).ownBlock) v1_ r1 ∧ Kd.R (Kd.int .i64) 2 w' w.heap.size (fun k_ => some k_ ≠ (v1_ : Value).ownBlock) v2_ r2 ∧ Below w.heap.size w w' := by
  obtain ⟨n, hn⟩ : ∃ n, l1.length = n := ⟨_, rfl⟩
  have HN := Aside0.mk hn
  have H := Aside0.mk h
  have HR := Aside0.mk hr1
  rw [hn] at hc1 ⊢
  have HC := Aside0.mk hc1
  clear hr1 h hc1 hn
  by_cases hc : a0 < 0 ∨ 2000 < a0
  · have hr : r1 = [] ∧ r2 = [] ∧ r3 = false := by
      have h1 := H.out
      unfold spec_SortPlan.f at h1
      rw [if_pos hc] at h1
      injection h1 with h1
      injection h1 with h2 h3
      injection h3 with h3 h4
      exact ⟨h2.symm, h3.symm, h4.symm⟩
    obtain ⟨rfl, rfl, rfl⟩ := hr
    clear H
    have HE := Aside0.mk (show Kd.R k34 34 ((w.alloc (.cells #[] 34)).alloc (.cells #[] 2)) w.heap.size (fun k_ => some k_ ≠ (Value.slice (some ⟨w.heap.size + 1, 0, none⟩) 0 0).ownBlock) (.slice (some ⟨w.heap.size, 0, none⟩) 0 0) [] ∧
        Kd.R (Kd.int .i64) 2 ((w.alloc (.cells #[] 34)).alloc (.cells #[] 2)) w.heap.size (fun k_ => some k_ ≠ (Value.slice (some ⟨w.heap.size, 0, none⟩) 0 0).ownBlock) (.slice (some ⟨w.heap.size + 1, 0, none⟩) 0 0) [] from by
      refine ⟨Kd.R_below (asks_none w (Nat.le_refl _) _ ?_) (below_alloc (Below.refl _ _) _), ?_⟩
      · show some w.heap.size ≠ some (w.heap.size + 1)
        intro e
        injection e with e
        omega
      · have h1 := ints_none (w.alloc (.cells #[] 34)) (b0 := w.heap.size) (by simp) (fun k_ => some k_ ≠ (Value.slice (some ⟨w.heap.size, 0, none⟩) 0 0).ownBlock) (by
          show some _ ≠ some w.heap.size
          intro e
          injection e with e
          simp at e)
        simpa using h1)
    by_cases hc0 : a0 < 0
    · clear hc
      go_enter Try.func16, Try.ntmps16
      go_wp2
      go_ret3
      exact ⟨_, _, rfl, HE.out.1, HE.out.2, below_alloc (below_alloc (Below.refl _ _) _) _⟩
    · have hc2 : 2000 < a0 := by omega
      clear hc
      go_enter Try.func16, Try.ntmps16
      go_wp2
      go_ret3
      exact ⟨_, _, rfl, HE.out.1, HE.out.2, below_alloc (below_alloc (Below.refl _ _) _) _⟩
  · obtain ⟨N, rfl⟩ : ∃ N : Nat, a0 = (N : Int) := ⟨a0.toNat, by omega⟩
    have hN : N ≤ 2000 := by omega
    have hr : asks (sort (ofAnswers l1) (N : Int)).1 = r1 ∧ (sort (ofAnswers l1) (N : Int)).2.getD [] = r2 ∧ (sort (ofAnswers l1) (N : Int)).2.isSome = r3 := by
      have h1 := H.out
      unfold spec_SortPlan.f at h1
      rw [if_neg hc] at h1
      injection h1 with h1
      injection h1 with h2 h3
      injection h3 with h3 h4
      exact ⟨h2, h3, h4⟩
    have HR2 := Aside0.mk hr
    have hC2 := HR.out
    rw [HN.out] at hC2
    obtain ⟨W0, hW0⟩ : ∃ W, ((w.alloc (.cells #[] 34)).alloc (.cells #[.slice none 0 0, .bool false, .slice A1 n c1, .slice (some ⟨w.heap.size, 0, none⟩) 0 0, .bool false] 54)) = W := ⟨_, rfl⟩
    have hT := less_answers (c := c1) (g := w.heap.size + 1) (b0 := W0.heap.size) (N := (N : Int)) (kv := .slice none 0 0) hC2 HC.out (by rw [← hW0]; simp; omega)
    have hI := tinv_new false (.slice none 0 0) (.slice A1 n c1) w
    rw [hW0] at hI
    have CALL := Aside0.mk (all_calls (g := w.heap.size + 1) (N := N) hN hT hI)
    have HB0 := Aside0.mk (show Below w.heap.size w W0 ∧ w.heap.size ≤ W0.heap.size by
      rw [← hW0]
      exact ⟨below_alloc (below_alloc (Below.refl _ _) _) _, by simp; omega⟩)
    have hN2 : (N : Int) ≤ 2000 := by omega
    clear hr hC2 H HR hc hT hI
    go_enter Try.func16, Try.ntmps16
    go_wp2_with fail
    refine Calls.mono CALL.out ?_
    rintro e w' ⟨v, L, st', s', C', rfl, hI, hm, hv, hs⟩
    have hstop := hI.stop
    obtain ⟨va, hCa, hba, hra, hna⟩ := hI.obj
    have hct : w'.cell? ⟨w.heap.size + 1, 3, none⟩ = some va := (blk_cell hba 3).trans rfl
    have hq := HR2.out
    rw [hs] at hq
    have hlt := Nat.le_trans HB0.out.2 hm.size
    have HV1 := Aside0.mk (show Kd.R k34 34 w' w.heap.size (fun k_ => va.ownBlock = some k_) va r1 by rw [← hq.1]; exact hra)
    have HV2 := Aside0.mk (Kd.R_lower hv HB0.out.2)
    have HCA := Aside0.mk hCa
    have HB := Aside0.mk (show Below w.heap.size w w' from HB0.out.1.trans ⟨hm.os, hm.tape, hm.output, hm.size, fun k hk => hm.block k (by have := HB0.out.2; omega) (by
      show ¬ (k = w.heap.size + 1 ∨ k = w.heap.size)
      omega)⟩)
    have HQ := Aside0.mk hq
    clear hI hm hv CALL HR2 hCa hba hra hna hs hq
    cases st' with
    | true =>
      obtain ⟨rfl, rfl⟩ : r2 = [] ∧ r3 = false := ⟨HQ.out.2.1.symm, HQ.out.2.2.symm⟩
      have HE := Aside0.mk (ints_none w' hlt (fun k_ => some k_ ≠ va.ownBlock) (fun e => by have := Kd.R_lt HV1.out _ e.symm; omega))
      have HV3 := Aside0.mk (Kd.R_mono (Kd.R_below HV1.out (below_alloc (Below.refl _ _) (.cells #[] 2))) (ok' := fun k_ => some k_ ≠ (Value.slice (some ⟨w'.heap.size, 0, none⟩) 0 0).ownBlock) (fun k hk e => by
        have h1 := Kd.R_lt HV1.out k hk
        have e2 : k = w'.heap.size := by simpa [Value.ownBlock] using e
        omega))
      clear HV1 HV2 HQ HCA
      go_wp2
      go_ret3
      exact ⟨_, _, rfl, HV3.out, HE.out, below_alloc HB.out _⟩
    | false =>
      obtain ⟨rfl, rfl⟩ : L = r2 ∧ r3 = true := ⟨HQ.out.2.1, HQ.out.2.2.symm⟩
      have HV3 := Aside0.mk (Kd.R_mono HV1.out (ok' := fun k_ => some k_ ≠ v.ownBlock) (fun k hk e => HV2.out.1 k e.symm ((HCA.out k).2 (.inr hk))))
      have HV4 := Aside0.mk (Kd.R_mono HV2.out (ok' := fun k_ => some k_ ≠ va.ownBlock) (fun k hk e => hk ((HCA.out k).2 (.inr e.symm))))
      clear HV1 HV2 HQ HCA
      go_wp2
      go_ret3
      exact ⟨_, _, rfl, HV3.out, HV4.out, HB.out⟩

end Go.Proofs.Ytdibbgldclgokaa.PS
