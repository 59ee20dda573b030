/- At every input the program's AttrSet answers as the reference's. Plain law; no condition beyond the size of what is handed in. -/
import Derived.Test.YtkclfbmgnhmkhaaAttZ
namespace Go.Proofs.Ytkclfbmgnhmkhaa.Pure
open Go.RowKit Go.Proofs.Ytkclfbmgnhmkhaa.PC Go.Proofs.YtkclfbmgnhmkhaaW.PrintWords Go.Proofs.YtkclfbmgnhmkhaaW.PrintLast

theorem FnExactAttrSet : ∀ (l0 : List (S61)) (a1 : Int) (l2 : List (S81)) (a3 : ByteArray), (l0.length * 48 ≤ 140737488351232 ∧ ∀ x0 ∈ l0, ((x0.f0.length * 8 ≤ 140737488351232 ∧ ∀ x1 ∈ x0.f0, (Lit.int .i64 x1).wf = true) ∧ (x0.f1.length * 32 ≤ 140737488351232 ∧ ∀ x1 ∈ x0.f1, (x1.f0.size ≤ 140737488351232 ∧ ((Lit.int .i64 x1.f1).wf = true ∧ (Lit.int .i64 x1.f2).wf = true))))) → (Lit.int .i64 a1).wf = true → (l2.length * 32 ≤ 140737488351232 ∧ ∀ x0 ∈ l2, (x0.f0.size ≤ 140737488351232 ∧ ((Lit.int .i64 x0.f1).wf = true ∧ (Lit.int .i64 x0.f2).wf = true))) → a3.size ≤ 140737488351232 → ∃ k, laws_FnExactAttrSet.f k l0 a1 l2 a3 = some true := by
  intro l0 a1 l2 a3 h ha h2 h3
  obtain ⟨s1, s2⟩ := small_of h
  refine ⟨22000000, ?_⟩
  unfold laws_FnExactAttrSet.f
  by_cases hs3 : (a3.size : Int) > 1048576
  · rw [if_pos hs3]
  rw [if_neg hs3]
  obtain ⟨r, e, hrle, hr⟩ := szC_some l0 s1 s2 22000000 (by omega)
  rw [e, Option.bind_some]
  by_cases hneg : r < 0
  · rw [if_pos hneg]
  obtain ⟨h1, hin⟩ := hr.resolve_left hneg
  rw [if_neg hneg]
  obtain ⟨r2, e2, _, hr2⟩ := szA_some l2 (fun y hy => by have := (h2.2 y hy).1; omega) (by have := h2.1; omega) r (by omega) (by omega) 22000000 (by omega)
  rw [e2, Option.bind_some]
  by_cases hneg2 : r2 < 0
  · rw [if_pos hneg2]
  have h4 := hr2.resolve_left hneg2
  have hs := toC_small hin
  have hl : (l0.map toC).length ≤ 1048576 := by rw [List.length_map]; exact h1
  have hol : (l2.map toA).length ≤ 1048576 := by rw [List.length_map]; exact h4
  rw [if_neg hneg2, toCS_some l0 h1 hin 22000000 (by omega), Option.bind_some, toAS_some l2 (by omega) 22000000 (by omega), Option.bind_some]
  have key : ∃ v, spec_AttrSet.f 22000000 (l0.map toC) a1 (l2.map toA) a3 = some v ∧ impl_AttrSet.f (l0.map toC) a1 (l2.map toA) a3 = some v := by
    unfold spec_AttrSet.f impl_AttrSet.f
    rcases args_same (l0.map toC) (l2.map toA) a3 a1 (by omega) (fun c hc => by have := hs c hc; omega) (by omega) 22000000 (by omega) with ⟨x, e5, e6⟩ | ⟨line, e5, e6, h7, h8, h9⟩
    · rw [e5, e6]
      exact ⟨-1, rfl, rfl⟩
    · rw [e5, e6, Option.bind_some, Option.bind_some, if_pos rfl, first_some _ line a3 (by omega) h8 h9 22000000 (by omega), Option.bind_some]
      cases firstAt (l0.map toC) a3 line with
      | none => exact ⟨1, rfl, rfl⟩
      | some a =>
        by_cases ek : a.f1 = 1
        · exact ⟨2, by simp [firstS, ek], by simp [resOf, ek]⟩
        · exact ⟨1, by simp [firstS, ek], by simp [resOf, ek]⟩
  obtain ⟨v, e7, e8⟩ := key
  rw [e7, Option.bind_some, Option.bind_some, Option.bind_some, e8, Option.bind_some, if_pos rfl, Option.bind_some, eqC_some _ hl hs 22000000 (by omega), Option.bind_some, if_pos rfl, Option.bind_some, eqA_some _ (by omega) 22000000 (by omega), Option.bind_some, if_pos rfl]

end Go.Proofs.Ytkclfbmgnhmkhaa.Pure
