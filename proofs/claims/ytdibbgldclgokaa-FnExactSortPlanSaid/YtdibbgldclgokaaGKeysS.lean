/- What SortKeys of the reference comes to. No condition beyond those of the theorems. -/
import Derived.Test.YtdibbgldclgokaaGAllS
import Derived.Test.YtdibbgldclgokaaSortL
namespace Go.Proofs.Ytdibbgldclgokaa.PS
open Go.RowKit Go.Proofs.YtdibbgldclgokaaW.PrintWords Go.Proofs.YtdibbgldclgokaaW.PrintLast Go.Proofs.YtdibbgldclgokaaW.PrintMore Go.Proofs.Ytdibbgldclgokaa.SortM
set_option linter.unusedVariables false
set_option linter.unusedSimpArgs false

def spec_SortKeys.f (l0 : List Int) : Option (List Int × Int) :=
  if (l0.length : Int) > 2000 then some ([], -1) else some ((sort (ofKeys l0) (l0.length : Int)).2.getD [], ((sort (ofKeys l0) (l0.length : Int)).1.length : Int))

/-- The state as it is made. -/
theorem tinv_new (over : Bool) (kv av : Value) (w : World) : TInv over kv av w (w.heap.size + 1) false [] (fun k => k = w.heap.size + 1 ∨ k = w.heap.size) ((w.alloc (.cells #[] 34)).alloc (.cells #[kv, .bool over, av, .slice (some ⟨w.heap.size, 0, none⟩) 0 0, .bool false] 54)) := by
  refine ⟨fun k hk => ?_, by omega, .slice (some ⟨w.heap.size, 0, none⟩) 0 0, fun k => ?_, ?_, ?_, ?_⟩
  · rw [Below.heap_alloc _ _ k (by simp; omega), Below.heap_alloc _ _ k hk]
  · show (k = w.heap.size + 1 ∨ k = w.heap.size) ↔ (k = w.heap.size + 1 ∨ some w.heap.size = some k)
    constructor
    · rintro (h | h)
      · exact .inl h
      · exact .inr (by rw [h])
    · rintro (h | h)
      · exact .inl h
      · injection h with h
        exact .inr h.symm
  · have h1 := heap_alloc_new (w.alloc (.cells #[] 34)) (.cells #[kv, .bool over, av, .slice (some ⟨w.heap.size, 0, none⟩) 0 0, .bool false] 54)
    simpa using h1
  · exact ⟨fun k hk => hk, [], (World.ownsRow_lit (base := w.heap.size) (e := 34) (size := 2) w #[] 0 (Nat.le_refl _) (by decide) rfl).alloc _, ⟨rfl, fun j p hj => by simp [asks] at hj⟩⟩
  · show some w.heap.size ≠ some (w.heap.size + 1)
    intro e
    injection e with e
    omega

theorem spec_SortKeys.calls (A0 : Option Addr) (c0 : Nat) (l0 : List Int) (r1 : List Int) (r2 : Int) (w : World) (hr0 : Kd.C (Kd.int .i64) w A0 l0.length l0) (hc0 : l0.length ≤ c0) (h : spec_SortKeys.f l0 = some (r1, r2)) :
    Calls Try.prog 11 #[.slice A0 l0.length c0] w fun e w' => ∃ v1_ : Value, e = .returned (.tuple #[v1_, .int .i64 r2]) ∧ Kd.R (Kd.int .i64) 2 w' w.heap.size (fun _ => True) v1_ r1 ∧ Below w.heap.size w w' := by
  have HR := Aside0.mk hr0
  obtain ⟨n, hn⟩ : ∃ n, l0.length = n := ⟨_, rfl⟩
  have HN := Aside0.mk hn
  rw [hn] at hc0 ⊢
  have HC := Aside0.mk hc0
  have H := Aside0.mk h
  clear hr0 h hc0 hn
  by_cases hc : n > 2000
  · have hr : r1 = [] ∧ r2 = -1 := by
      have h1 := H.out
      unfold spec_SortKeys.f at h1
      rw [if_pos (by have := HN.out; omega)] at h1
      injection h1 with h1
      injection h1 with h2 h3
      exact ⟨h2.symm, h3.symm⟩
    obtain ⟨rfl, rfl⟩ := hr
    have HE := Aside0.mk (show Kd.R (Kd.int .i64) 2 (w.alloc (.cells #[] 2)) w.heap.size (fun _ => True) (.slice (some ⟨w.heap.size, 0, none⟩) 0 0) [] from
      Kd.R_of_own (World.ownsRow_lit (base := w.heap.size) (e := 2) (size := 1) w #[] 0 (Nat.le_refl _) (by decide) rfl) (fun _ _ => trivial))
    go_enter Try.func11, Try.ntmps11
    go_wp2
    go_ret2
    exact ⟨_, rfl, HE.out, below_alloc (Below.refl _ _) _⟩
  · have hc2 : (n : Int) ≤ 2000 := by omega
    have hr : (sort (ofKeys l0) (n : Int)).2.getD [] = r1 ∧ ((sort (ofKeys l0) (n : Int)).1.length : Int) = r2 := by
      have h1 := H.out
      unfold spec_SortKeys.f at h1
      rw [if_neg (by have := HN.out; omega), HN.out] at h1
      injection h1 with h1
      injection h1 with h2 h3
      exact ⟨h2, h3⟩
    have HR2 := Aside0.mk hr
    have hC2 := HR.out
    rw [HN.out] at hC2
    obtain ⟨W0, hW0⟩ : ∃ W, ((w.alloc (.cells #[] 34)).alloc (.cells #[.slice A0 n c0, .bool true, .slice none 0 0, .slice (some ⟨w.heap.size, 0, none⟩) 0 0, .bool false] 54)) = W := ⟨_, rfl⟩
    have hT := less_keys (c := c0) (g := w.heap.size + 1) (b0 := W0.heap.size) (av := .slice none 0 0) hC2 (by rw [← hW0]; simp; omega)
    have hI := tinv_new true (.slice A0 n c0) (.slice none 0 0) w
    rw [hW0] at hI
    have CALL := Aside0.mk (all_calls (g := w.heap.size + 1) (N := n) (by omega) hT hI)
    have HB0 := Aside0.mk (show Below w.heap.size w W0 ∧ w.heap.size ≤ W0.heap.size by
      rw [← hW0]
      exact ⟨below_alloc (below_alloc (Below.refl _ _) _) _, by simp; omega⟩)
    clear hr hC2 H HR hc hT hI
    go_enter Try.func11, Try.ntmps11
    go_wp2_with fail
    refine Calls.mono CALL.out ?_
    rintro e w' ⟨v, L, st', s', C', rfl, hI, hm, hv, hs⟩
    obtain ⟨va, hCa, hba, hra, hna⟩ := hI.obj
    obtain ⟨A3, c3, rfl⟩ := Kd.R_slice hra
    obtain ⟨L1, t1, hd1, _⟩ := sort_does (l := l0) n
    have hd2 : sort (ofKeys l0) (n : Int) = (t1, some L1) := hd1
    have hL : L = r1 ∧ (s'.length : Int) = r2 := by
      have h1 := HR2.out
      rw [hs] at hd2 h1
      cases st' with
      | true => injection hd2 with _ h3; cases h3
      | false => exact h1
    obtain ⟨rfl, hs2⟩ := hL
    have hal : (asks s').length = s'.length := List.length_map _
    have hct : w'.cell? ⟨w.heap.size + 1, 3, none⟩ = some (.slice A3 (asks s').length c3) := (blk_cell hba 3).trans rfl
    rw [hal] at hct
    have HS2 := Aside0.mk hs2
    obtain ⟨m, hm2⟩ : ∃ m, s'.length = m := ⟨_, rfl⟩
    rw [hm2] at hct HS2
    have HV := Aside0.mk (Kd.R_mono (Kd.R_lower hv HB0.out.2) (ok' := fun _ => True) (fun _ _ => trivial))
    have HB := Aside0.mk (show Below w.heap.size w w' from HB0.out.1.trans ⟨hm.os, hm.tape, hm.output, hm.size, fun k hk => hm.block k (by have := HB0.out.2; omega) (by
      show ¬ (k = w.heap.size + 1 ∨ k = w.heap.size)
      omega)⟩)
    clear hI hm hv CALL HR2 hCa hba hra hna hd1 hd2 hs hs2 hal hm2
    go_wp2_with fail
    go_quiet (fail)
    go_wp2
    go_ret2
    rw [← HS2.out]
    exact ⟨_, rfl, Kd.R_step HV.out (fun _ _ _ => rfl), HB.out.trans ⟨rfl, rfl, rfl, Nat.le_refl _, fun _ _ => rfl⟩⟩

end Go.Proofs.Ytdibbgldclgokaa.PS
