/- The law on DictRun, as a Lean function, answers true. No condition beyond the statement's. -/
import Derived.Test.YtohilfkdfcihgaaPDrx5
import Derived.Test.YtohilfkdfcihgaaRunZ
namespace Go.Proofs.Ytohilfkdfcihgaa.Pure
open Go.RowKit Go.Proofs.Ytohilfkdfcihgaa.PDi Go.Proofs.YtohilfkdfcihgaaW.PrintWords Go.Proofs.YtohilfkdfcihgaaW.PrintLast Go.Proofs.Ytohilfkdfcihgaa.DictW Go.Proofs.Ytohilfkdfcihgaa.DictT

theorem wf_u64c {x : Int} (h : (Lit.int .u64 x).wf = true) : 0 ≤ x ∧ x ≤ 18446744073709551615 := by
  have e : (Lit.int .u64 x).wf = (decide ((0 : Int) ≤ x) && decide (x ≤ 18446744073709551615)) := rfl
  rw [e] at h
  simpa using h

theorem FnExactDictRun : ∀ (l0 : List (S86)), (l0.length * 32 ≤ 140737488351232 ∧ ∀ x ∈ l0, ((Lit.int .i64 x.f0).wf = true ∧ ((Lit.int .u64 x.f1).wf = true ∧ ((Lit.int .i64 x.f2).wf = true ∧ (Lit.int .i64 x.f3).wf = true)))) → ∃ k, laws_FnExactDictRun.f k l0 = some true := by
  intro l ⟨hl, hw⟩
  refine ⟨8000000000, ?_⟩
  unfold laws_FnExactDictRun.f laws_szDictOpS.f
  rw [DictW.wrap_in (1048576 - (l.length : Int)) (by omega) (by omega)]
  by_cases c1 : (1048576 - (l.length : Int)) < 0
  · rw [if_pos c1]
    simp
  · rw [if_neg c1]
    simp only [Option.bind_some]
    rw [if_neg c1]
    have hml : (l.map cvo).length = l.length := List.length_map ..
    have hw2 : ∀ o ∈ l.map cvo, 0 ≤ o.f1 ∧ o.f1 ≤ 18446744073709551615 := by
      intro o ho
      obtain ⟨x, hx, rfl⟩ := List.mem_map.1 ho
      exact wf_u64c (hw x hx).2.1
    obtain ⟨r, hi, hr, hs⟩ := dictRun_both (l.map cvo) hw2
    rw [toO_some l (by omega) _ (by omega)]
    simp only [Option.bind_some]
    rw [hs _ (by omega), hi]
    simp only [Option.bind_some]
    rw [laws_eqInt64S_some r (by omega) _ (by omega)]
    simp only [Option.bind_some]
    rw [if_pos trivial, eqO_some (l.map cvo) (by omega) _ (by omega)]
    simp only [Option.bind_some]
    obtain ⟨y, hy⟩ := markO_some (l.map cvo) (by omega) 8000000000 (by omega)
    rw [if_pos trivial, hy]
    simp only [Option.bind_some]
    rw [if_neg (by omega)]
    simp only [Bool.not_true]
    simp only [laws_FnExactDictRun.j0]
    rw [if_neg (by simp), laws_markInt64S_some r _ (by omega) (by omega)]
    simp only [Option.bind_some]
    rw [laws_heldInt64S_some r.length _ (by omega) (by omega)]
    simp only [Option.bind_some]
    rw [if_neg (by omega), if_pos trivial, toO_some l (by omega) _ (by omega)]
    simp only [Option.bind_some]
    rw [hi]
    simp only [Option.bind_some]
    rw [laws_eqInt64S_some r (by omega) _ (by omega)]
    simp only [Option.bind_some]
    rw [if_pos trivial, if_neg (by omega), if_pos trivial]

end Go.Proofs.Ytohilfkdfcihgaa.Pure
