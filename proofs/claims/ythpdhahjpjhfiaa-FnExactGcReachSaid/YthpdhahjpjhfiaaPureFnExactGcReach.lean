/- At every count, row of edges and row of roots the program's GcReach answers as the reference's; what it returns is its own. Plain law; no condition. -/
import Derived.Test.YthpdhahjpjhfiaaCpyG
namespace Go.Proofs.Ythpdhahjpjhfiaa.Pure
open Go.RowKit Go.Proofs.Ythpdhahjpjhfiaa.PR Go.Proofs.YthpdhahjpjhfiaaW.PrintWords Go.Proofs.YthpdhahjpjhfiaaW.PrintLast

theorem FnExactGcReach : ∀ (a0 : Int) (l1 : List (S54)) (l2 : List Int), (Lit.int .i64 a0).wf = true → (l1.length * 24 ≤ 140737488351232 ∧ ∀ x0 ∈ l1, ((Lit.int .i64 x0.f0).wf = true ∧ ((Lit.int .i64 x0.f1).wf = true ∧ (Lit.int .i64 x0.f2).wf = true))) → (l2.length * 8 ≤ 140737488351232 ∧ ∀ x0 ∈ l2, (Lit.int .i64 x0).wf = true) → ∃ k, laws_FnExactGcReach.f k a0 l1 l2 = some true := by
  intro a0 l1 l2 _ h1 _
  refine ⟨2300000000, ?_⟩
  obtain ⟨K, hK⟩ : ∃ K, K = 2300000000 := ⟨_, rfl⟩
  rw [← hK]
  unfold laws_FnExactGcReach.f
  by_cases hl2 : (l2.length : Int) > 1048576
  · rw [if_pos hl2]
  have hs : laws_szGcOpS.f l1 1048576 = some (if (1048576 : Int) - (l1.length : Int) < 0 then -1 else 1048576 - (l1.length : Int)) := by
    unfold laws_szGcOpS.f
    rw [wrapIn (by omega) (by omega)]
    by_cases h : (1048576 : Int) - (l1.length : Int) < 0
    · rw [if_pos h, if_pos h]
    · rw [if_neg h, if_neg h]
  rw [if_neg hl2, hs, Option.bind_some]
  by_cases hl1 : (1048576 : Int) - (l1.length : Int) < 0
  · rw [if_pos hl1, if_pos (by omega)]
  have n1 : l1.length ≤ 1048576 := by omega
  have n2 : l2.length ≤ 1048576 := by omega
  have m1 : (l1.map toOp).length ≤ 1048576 := by rw [List.length_map]; exact n1
  obtain ⟨r, hr, e1, e2⟩ := reach_same a0 (l1.map toOp) m1 l2 n2 K (by omega)
  have hr2 : r.length ≤ 1048576 := by omega
  obtain ⟨y, e3⟩ := markOps_some (l1.map toOp) m1 K (by omega)
  rw [if_neg hl1, if_neg (by omega), toOps_some l1 n1 K (by omega), Option.bind_some, toInts_some l2 n2 K (by omega), Option.bind_some, e1, Option.bind_some, Option.bind_some, Option.bind_some, e2, Option.bind_some,
    eqInts_some r hr2 K (by omega), Option.bind_some, if_pos rfl, Option.bind_some, eqOps_some _ m1 K (by omega), Option.bind_some, if_pos rfl, Option.bind_some, eqInts_some l2 n2 K (by omega), Option.bind_some, if_pos rfl,
    e3, Option.bind_some, markInts_some l2 n2 (1 + 3 * (l1.map toOp).length) (by omega) K (by omega), Option.bind_some, if_neg (by simp only; omega), Option.bind_some]
  obtain ⟨K, rfl⟩ : ∃ m, K = m + 1 := ⟨K - 1, by omega⟩
  have e4 := markInts_some r hr2 1 (by omega) K (by omega)
  have e5 := heldInts_some r.length hr2 K (by omega)
  obtain ⟨r', _, f1, f2⟩ := reach_same a0 (l1.map toOp) m1 l2 n2 K (by omega)
  obtain rfl : r' = r := Option.some.inj (f2.symm.trans e2)
  rw [show ((1 : Nat) : Int) = 1 from rfl] at e4
  rw [laws_FnExactGcReach.j0, if_neg (by decide), e4, Option.bind_some]
  simp only []
  rw [e5, Option.bind_some, if_neg (by omega), if_pos rfl, toOps_some l1 n1 K (by omega), Option.bind_some, toInts_some l2 n2 K (by omega), Option.bind_some, e2, Option.bind_some, eqInts_some r' hr2 K (by omega), Option.bind_some, if_pos rfl, Option.bind_some, if_neg (by omega), if_pos rfl]

end Go.Proofs.Ythpdhahjpjhfiaa.Pure
