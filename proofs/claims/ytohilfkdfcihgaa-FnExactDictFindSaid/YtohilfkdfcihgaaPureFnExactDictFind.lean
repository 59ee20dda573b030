import Derived.Test.YtohilfkdfcihgaaPDix6
import Derived.Test.YtohilfkdfcihgaaDictX
import Derived.Test.YtohilfkdfcihgaaDictW
namespace Go.Proofs.Ytohilfkdfcihgaa.Pure
open Go.RowKit Go.Proofs.Ytohilfkdfcihgaa.PDi Go.Proofs.YtohilfkdfcihgaaW.PrintWords Go.Proofs.YtohilfkdfcihgaaW.PrintLast Go.Proofs.Ytohilfkdfcihgaa.DictW Go.Proofs.Ytohilfkdfcihgaa.DictT

theorem wf_u64' {x : Int} (h : (Lit.int .u64 x).wf = true) : 0 ≤ x ∧ x ≤ 18446744073709551615 := by
  have e : (Lit.int .u64 x).wf = (decide ((0 : Int) ≤ x) && decide (x ≤ 18446744073709551615)) := rfl
  rw [e] at h
  simpa using h

theorem FnExactDictFind : ∀ (l0_0 : List Int) (l0_1 : List (S99)) (a0_2 : Int) (a1 : Int) (a2 : Int), (l0_0.length * 8 ≤ 140737488351232 ∧ ∀ x ∈ l0_0, (Lit.int .i64 x).wf = true) → (l0_1.length * 32 ≤ 140737488351232 ∧ ∀ x ∈ l0_1, ((Lit.int .u64 x.f0).wf = true ∧ ((Lit.int .i64 x.f1).wf = true ∧ ((Lit.int .i64 x.f2).wf = true ∧ True)))) → (Lit.int .i64 a0_2).wf = true → (Lit.int .u64 a1).wf = true → (Lit.int .i64 a2).wf = true → ∃ k, laws_FnExactDictFind.f k l0_0 l0_1 a0_2 a1 a2 = some true := by
  intro T E live hash key ⟨hT, hTw⟩ ⟨hE, hEw⟩ hl hh hk
  obtain ⟨g0, g1⟩ := wf_u64' hh
  refine ⟨6000000000, ?_⟩
  have hH : ∀ e ∈ E.map cv, 0 ≤ e.f0 ∧ e.f0 ≤ 18446744073709551615 := by
    intro e he
    obtain ⟨x, hx, rfl⟩ := List.mem_map.1 he
    exact wf_u64' (hEw x hx).1
  unfold laws_FnExactDictFind.f
  rcases szDict_cases T E live (by omega) (by omega) with h | ⟨v, h, hv, h1, h2⟩
  · rw [h]
    simp
  · rw [h]
    simp only [Option.bind_some]
    rw [if_neg (by omega), toDict_some T E live (by omega) (by omega) _ (by omega) (by omega)]
    simp only [Option.bind_some]
    have hfin : ∀ k, 2000000 ≤ k → laws_FnExactDictFind.j0 k false T E live T (E.map cv) live = some true := by
      intro k hk
      obtain ⟨k, rfl⟩ : ∃ q, k = q + 1 := ⟨k - 1, by omega⟩
      simp only [laws_FnExactDictFind.j0]
      rw [if_neg (by simp), toDict_some T E live (by omega) (by omega) _ (by omega) (by omega)]
      simp only [Option.bind_some]
      rw [eqDict_some T (E.map cv) live (by omega) (by rw [List.length_map]; omega) _ (by omega) (by rw [List.length_map]; omega)]
      simp
    obtain ⟨b, hb1, hb2, hb3⟩ := ok_both T (E.map cv) live (by omega) (by rw [List.length_map]; omega) hH
    unfold spec_DictFind.f impl_DictFind.f
    rw [hb2 _ (Nat.le_refl _), hb1]
    simp only [Option.bind_some]
    cases b with
    | false =>
      simp only [if_neg (show ¬ (false = true) by decide), Option.bind_some]
      rw [if_pos trivial, show ((-1 : Int) != -1) = false from by decide]
      exact hfin _ (by omega)
    | true =>
      obtain ⟨m, m3, m16, hm, hle, hlt, h6, ht, hI, _⟩ := hb3 rfl
      obtain ⟨J, hJ, _, _, hf1, hf2⟩ := find_both m T.length hm h6 (E.map cv) hlt T hI live hash key g0 g1
      rw [hf1, hf2 _ (by omega)]
      simp only [if_true, Option.bind_some]
      rw [show ∀ x : Int, (x != x) = false from fun x => by simp]
      exact hfin _ (by omega)

end Go.Proofs.Ytohilfkdfcihgaa.Pure
