import Derived.Test.YtohilfkdfcihgaaPDpx4
import Derived.Test.YtohilfkdfcihgaaPutZ
import Derived.Test.YtohilfkdfcihgaaDictN
namespace Go.Proofs.Ytohilfkdfcihgaa.Pure
open Go.RowKit Go.Proofs.Ytohilfkdfcihgaa.PDi Go.Proofs.YtohilfkdfcihgaaW.PrintWords Go.Proofs.YtohilfkdfcihgaaW.PrintLast Go.Proofs.Ytohilfkdfcihgaa.DictW Go.Proofs.Ytohilfkdfcihgaa.DictT

theorem wf_u64c {x : Int} (h : (Lit.int .u64 x).wf = true) : 0 ≤ x ∧ x ≤ 18446744073709551615 := by
  have e : (Lit.int .u64 x).wf = (decide ((0 : Int) ≤ x) && decide (x ≤ 18446744073709551615)) := rfl
  rw [e] at h
  simpa using h

theorem FnExactDictPut : ∀ (l0_0 : List Int) (l0_1 : List (S99)) (a0_2 : Int) (a1 : Int) (a2 : Int) (a3 : Int), (l0_0.length * 8 ≤ 140737488351232 ∧ ∀ x ∈ l0_0, (Lit.int .i64 x).wf = true) → (l0_1.length * 32 ≤ 140737488351232 ∧ ∀ x ∈ l0_1, ((Lit.int .u64 x.f0).wf = true ∧ ((Lit.int .i64 x.f1).wf = true ∧ ((Lit.int .i64 x.f2).wf = true ∧ True)))) → (Lit.int .i64 a0_2).wf = true → (Lit.int .u64 a1).wf = true → (Lit.int .i64 a2).wf = true → (Lit.int .i64 a3).wf = true → ∃ k, laws_FnExactDictPut.f k l0_0 l0_1 a0_2 a1 a2 a3 = some true := by
  intro T E live hash key val ⟨hT, hTw⟩ ⟨hE, hEw⟩ hl hh hk hv0
  obtain ⟨g0, g1⟩ := wf_u64c hh
  refine ⟨6000000010, ?_⟩
  have hH : ∀ e ∈ E.map cv, 0 ≤ e.f0 ∧ e.f0 ≤ 18446744073709551615 := by
    intro e he
    obtain ⟨x, hx, rfl⟩ := List.mem_map.1 he
    exact wf_u64c (hEw x hx).1
  unfold laws_FnExactDictPut.f
  rcases szDict_cases T E live (by omega) (by omega) with h | ⟨v, h, hv, h1, h2⟩
  · rw [h]
    simp
  · obtain ⟨⟨r1, r2, r3, r4⟩, hi, hs, hr1, hr2⟩ := put_both T (E.map cv) live hash key val (by omega) (by rw [List.length_map]; omega) hH g0 g1
    simp only at hr1 hr2
    have hml : (E.map cv).length = E.length := List.length_map ..
    rw [h]
    simp only [Option.bind_some]
    rw [if_neg (by omega), toDict_some T E live (by omega) (by omega) _ (by omega) (by omega)]
    simp only [Option.bind_some]
    rw [hs _ (by omega), hi]
    simp only [Option.bind_some]
    rw [eqDict_some r1 r2 r3 (by omega) (by omega) _ (by omega) (by omega)]
    simp only [Option.bind_some]
    rw [if_pos trivial, show (r4 != r4) = false from by simp]
    simp only [laws_FnExactDictPut.j0]
    rw [if_neg (by simp), toDict_some T E live (by omega) (by omega) _ (by omega) (by omega)]
    simp only [Option.bind_some]
    rw [eqDict_some T (E.map cv) live (by omega) (by omega) _ (by omega) (by omega)]
    simp only [Option.bind_some]
    rw [if_pos trivial, markDict_some T (E.map cv) live (by omega) (by omega) _ (by omega) (by omega)]
    simp only [Option.bind_some]
    rw [if_neg (by omega), eqDict_some r1 r2 r3 (by omega) (by omega) _ (by omega) (by omega)]
    simp only [Option.bind_some]
    rw [if_pos trivial, show (r4 != r4) = false from by simp]
    simp only [laws_FnExactDictPut.j1]
    rw [if_neg (by simp), markDict_some r1 r2 r3 (by omega) (by omega) _ (by omega) (by omega)]
    simp only [Option.bind_some]
    rw [heldDict_some r1.length r2.length r3 (by omega) (by omega) _ (by omega) (by omega)]
    simp only [Option.bind_some]
    rw [if_neg (by omega), if_pos trivial, toDict_some T E live (by omega) (by omega) _ (by omega) (by omega)]
    simp only [Option.bind_some]
    rw [hi]
    simp only [Option.bind_some]
    rw [eqDict_some r1 r2 r3 (by omega) (by omega) _ (by omega) (by omega)]
    simp only [Option.bind_some]
    rw [if_pos trivial, show (r4 != r4) = false from by simp]
    simp only [laws_FnExactDictPut.j2]
    rw [if_neg (by simp), heldDict_some r1.length r2.length r3 (by omega) (by omega) _ (by omega) (by omega)]
    simp only [Option.bind_some]
    rw [if_neg (by omega), if_pos trivial]

end Go.Proofs.Ytohilfkdfcihgaa.Pure
