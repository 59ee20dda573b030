/- At every row of classes the program's ClassesOk answers as the reference's. Plain law; no condition beyond the size of what is handed in. -/
import Derived.Test.YtkclfbmgnhmkhaaCpyZ
namespace Go.Proofs.Ytkclfbmgnhmkhaa.Pure
open Go.RowKit Go.Proofs.Ytkclfbmgnhmkhaa.PC Go.Proofs.YtkclfbmgnhmkhaaW.PrintWords Go.Proofs.YtkclfbmgnhmkhaaW.PrintLast

theorem FnExactClassesOk : ∀ (l0 : List (S61)), (l0.length * 48 ≤ 140737488351232 ∧ ∀ x0 ∈ l0, ((x0.f0.length * 8 ≤ 140737488351232 ∧ ∀ x1 ∈ x0.f0, (Lit.int .i64 x1).wf = true) ∧ (x0.f1.length * 32 ≤ 140737488351232 ∧ ∀ x1 ∈ x0.f1, (x1.f0.size ≤ 140737488351232 ∧ ((Lit.int .i64 x1.f1).wf = true ∧ (Lit.int .i64 x1.f2).wf = true))))) → ∃ k, laws_FnExactClassesOk.f k l0 = some true := by
  intro l0 h
  obtain ⟨s1, s2⟩ := small_of h
  refine ⟨21000000, ?_⟩
  unfold laws_FnExactClassesOk.f
  obtain ⟨r, e, _, hr⟩ := szC_some l0 s1 s2 21000000 (by omega)
  rw [e, Option.bind_some]
  by_cases hneg : r < 0
  · rw [if_pos hneg]
  · obtain ⟨h1, h2⟩ := hr.resolve_left hneg
    have hs := toC_small h2
    have hl : (l0.map toC).length ≤ 1048576 := by rw [List.length_map]; exact h1
    have hi : impl_ClassesOk.f (l0.map toC) = some (okCls (l0.map toC)) := by
      unfold impl_ClassesOk.f
      rw [if_pos ⟨by omega, fun c hc => by have := hs c hc; omega⟩]
    rw [if_neg hneg, toCS_some l0 h1 h2 21000000 (by omega), Option.bind_some, specCls _ (by omega) (fun c hc => by have := hs c hc; omega) 21000000 (by omega), Option.bind_some, Option.bind_some, hi, Option.bind_some,
      bne_self_eq_false, if_neg (by decide), Option.bind_some, eqC_some _ hl hs 21000000 (by omega), Option.bind_some, if_pos rfl]

end Go.Proofs.Ytkclfbmgnhmkhaa.Pure
