import Derived.Test.YtohilfkdfcihgaaPDix5
import Derived.Test.YtohilfkdfcihgaaDictX
import Derived.Test.YtohilfkdfcihgaaDictW
namespace Go.Proofs.Ytohilfkdfcihgaa.Pure
open Go.RowKit Go.Proofs.Ytohilfkdfcihgaa.PDi Go.Proofs.YtohilfkdfcihgaaW.PrintWords Go.Proofs.YtohilfkdfcihgaaW.PrintLast Go.Proofs.Ytohilfkdfcihgaa.DictW Go.Proofs.Ytohilfkdfcihgaa.DictT

theorem wf_u64 {x : Int} (h : (Lit.int .u64 x).wf = true) : 0 ≤ x ∧ x ≤ 18446744073709551615 := by
  have e : (Lit.int .u64 x).wf = (decide ((0 : Int) ≤ x) && decide (x ≤ 18446744073709551615)) := rfl
  rw [e] at h
  simpa using h

theorem FnExactDictOk : ∀ (l0_0 : List Int) (l0_1 : List (S99)) (a0_2 : Int), (l0_0.length * 8 ≤ 140737488351232 ∧ ∀ x ∈ l0_0, (Lit.int .i64 x).wf = true) → (l0_1.length * 32 ≤ 140737488351232 ∧ ∀ x ∈ l0_1, ((Lit.int .u64 x.f0).wf = true ∧ ((Lit.int .i64 x.f1).wf = true ∧ ((Lit.int .i64 x.f2).wf = true ∧ True)))) → (Lit.int .i64 a0_2).wf = true → ∃ k, laws_FnExactDictOk.f k l0_0 l0_1 a0_2 = some true := by
  intro T E live ⟨hT, hTw⟩ ⟨hE, hEw⟩ hl
  refine ⟨6000000000, ?_⟩
  have hH : ∀ e ∈ E.map cv, 0 ≤ e.f0 ∧ e.f0 ≤ 18446744073709551615 := by
    intro e he
    obtain ⟨x, hx, rfl⟩ := List.mem_map.1 he
    exact wf_u64 (hEw x hx).1
  unfold laws_FnExactDictOk.f
  rcases szDict_cases T E live (by omega) (by omega) with h | ⟨v, h, hv, h1, h2⟩
  · rw [h]
    simp
  · rw [h]
    simp only [Option.bind_some]
    rw [if_neg (by omega), toDict_some T E live (by omega) (by omega) _ (by omega) (by omega)]
    simp only [Option.bind_some]
    obtain ⟨b, hb1, hb2, _⟩ := ok_both T (E.map cv) live (by omega) (by rw [List.length_map]; omega) hH
    rw [hb2 _ (Nat.le_refl _), hb1]
    simp only [Option.bind_some]
    rw [if_neg (by simp), eqDict_some T (E.map cv) live (by omega) (by rw [List.length_map]; omega) _ (by omega) (by rw [List.length_map]; omega)]
    simp

end Go.Proofs.Ytohilfkdfcihgaa.Pure
