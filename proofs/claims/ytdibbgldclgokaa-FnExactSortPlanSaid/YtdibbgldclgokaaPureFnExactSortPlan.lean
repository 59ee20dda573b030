/- At every size and row of answers the program's SortPlan answers as the reference's; what it returns is its own. Plain law; no condition. -/
import Derived.Test.YtdibbgldclgokaaCpyP
import Derived.Test.YtdibbgldclgokaaSortD
namespace Go.Proofs.Ytdibbgldclgokaa.Pure
open Go.RowKit Go.Proofs.Ytdibbgldclgokaa.PS Go.Proofs.Ytdibbgldclgokaa.SortM Go.Proofs.YtdibbgldclgokaaW.PrintWords Go.Proofs.YtdibbgldclgokaaW.PrintLast

/-- No order is longer than the questions and the things allow. -/
theorem plan_len (a0 : Int) (l : List Bool) : ∃ r1 r2 r3, impl_SortPlan.f a0 l = some (r1, r2, r3) ∧ spec_SortPlan.f a0 l = some (r1, r2, r3) ∧ r1.length ≤ 100000000000000000 ∧ r2.length ≤ 100000000000 := by
  by_cases h : a0 < 0 ∨ 2000 < a0
  · refine ⟨[], [], false, ?_, ?_, by simp, by simp⟩
    · unfold impl_SortPlan.f
      rw [if_pos h]
    · unfold spec_SortPlan.f
      rw [if_pos h]
  · obtain ⟨N, rfl⟩ : ∃ N : Nat, a0 = (N : Int) := ⟨a0.toNat, by omega⟩
    refine ⟨asks (sort (ofAnswers l) (N : Int)).1, (sort (ofAnswers l) (N : Int)).2.getD [], (sort (ofAnswers l) (N : Int)).2.isSome, ?_, ?_, ?_, sort_short (ofAnswers l) N (by omega)⟩
    · unfold impl_SortPlan.f
      rw [if_neg h]
    · unfold spec_SortPlan.f
      rw [if_neg h]
    · show (List.map _ _).length ≤ _
      rw [List.length_map]
      have h1 := sort_fewB (ofAnswers l) N 2061 (by omega)
      have h2 : N * 2061 ≤ 4122000 := by omega
      have h3 : N * (N * 2061) ≤ 2000 * 4122000 := Nat.mul_le_mul (by omega) h2
      omega

theorem FnExactSortPlan : ∀ (a0 : Int) (l1 : List Bool), (Lit.int .i64 a0).wf = true → (l1.length * 1 ≤ 140737488351232 ∧ ∀ x0 ∈ l1, True) → ∃ k, laws_FnExactSortPlan.f k a0 l1 = some true := by
  intro a0 l _ _
  obtain ⟨r1, r2, r3, e1, e2, h1, h2⟩ := plan_len a0 l
  obtain ⟨K, hK⟩ : ∃ K, K = 3000000 + r1.length + r2.length := ⟨_, rfl⟩
  refine ⟨K, ?_⟩
  unfold laws_FnExactSortPlan.f
  by_cases hb : (l.length : Int) > 1048576
  · rw [if_pos hb]
  have n1 : l.length ≤ 1048576 := by omega
  rw [if_neg hb, toBools_some l n1 K (by omega), Option.bind_some, e2, Option.bind_some, Option.bind_some, e1, Option.bind_some]
  simp only []
  rw [eqAsks_some r1 h1 K (by omega), Option.bind_some, if_pos rfl, eqInts_some r2 h2 K (by omega), Option.bind_some, if_pos rfl, bne_self_eq_false]
  obtain ⟨K, rfl⟩ : ∃ m, K = m + 1 := ⟨K - 1, by omega⟩
  obtain ⟨y, f1⟩ := markBools_some l n1 K (by omega)
  rw [laws_FnExactSortPlan.j0, if_neg (by decide), toBools_some l n1 K (by omega), Option.bind_some, eqBools_some l n1 K (by omega), Option.bind_some, if_pos rfl, f1, Option.bind_some]
  simp only []
  rw [if_neg (by omega), eqAsks_some r1 h1 K (by omega), Option.bind_some, if_pos rfl, eqInts_some r2 h2 K (by omega), Option.bind_some, if_pos rfl, bne_self_eq_false]
  obtain ⟨K, rfl⟩ : ∃ m, K = m + 1 := ⟨K - 1, by omega⟩
  have f2 := markAsks_some r1 h1 K (by omega)
  have f3 := markInts_some r2 h2 (1 + 2 * r1.length) (by omega) K (by omega)
  have f4 := heldAsks_some r1.length h1 K (by omega)
  have f5 := heldInts_some (1 + 2 * r1.length) r2.length (by omega) h2 K (by omega)
  rw [laws_FnExactSortPlan.j1, if_neg (by decide), f2, Option.bind_some]
  simp only []
  rw [f3, Option.bind_some]
  simp only []
  rw [f4, Option.bind_some, if_neg (by omega), f5, Option.bind_some, if_neg (by omega), if_pos rfl, toBools_some l n1 K (by omega), Option.bind_some, e1, Option.bind_some]
  simp only []
  rw [eqAsks_some r1 h1 K (by omega), Option.bind_some, if_pos rfl, eqInts_some r2 h2 K (by omega), Option.bind_some, if_pos rfl, bne_self_eq_false]
  obtain ⟨K, rfl⟩ : ∃ m, K = m + 1 := ⟨K - 1, by omega⟩
  have f6 := heldAsks_some r1.length h1 K (by omega)
  have f7 := heldInts_some (1 + 2 * r1.length) r2.length (by omega) h2 K (by omega)
  rw [laws_FnExactSortPlan.j2, if_neg (by decide), f6, Option.bind_some, if_neg (by omega), f7, Option.bind_some, if_neg (by omega), if_pos rfl]

end Go.Proofs.Ytdibbgldclgokaa.Pure
