/- At every row of keys the program's SortKeys answers as the reference's; what it returns is its own. Plain law; no condition. -/
import Derived.Test.YtdibbgldclgokaaCpyK
import Derived.Test.YtdibbgldclgokaaPSx2
namespace Go.Proofs.Ytdibbgldclgokaa.Pure
open Go.RowKit Go.Proofs.Ytdibbgldclgokaa.PS Go.Proofs.Ytdibbgldclgokaa.SortM Go.Proofs.YtdibbgldclgokaaW.PrintWords Go.Proofs.YtdibbgldclgokaaW.PrintLast

theorem keys_len (l : List Int) (hl : l.length ≤ 1048576) : ∃ r1 r2, impl_SortKeys.f l = some (r1, r2) ∧ spec_SortKeys.f l = some (r1, r2) ∧ r1.length ≤ 1048576 := by
  by_cases h : (l.length : Int) > 2000
  · refine ⟨[], -1, ?_, ?_, by simp⟩
    · unfold impl_SortKeys.f
      rw [if_pos h]
    · unfold spec_SortKeys.f
      rw [if_pos h]
  · obtain ⟨L, t, hs, _, _, hL, _⟩ := sort_does (l := l) l.length
    have hs2 : sort (ofKeys l) (l.length : Int) = (t, some L) := hs
    refine ⟨L, (t.length : Int), ?_, ?_, by omega⟩
    · unfold impl_SortKeys.f
      rw [if_neg h, hs2]
      rfl
    · unfold spec_SortKeys.f
      rw [if_neg h, hs2]
      rfl

theorem FnExactSortKeys : laws_FnExactSortKeys.Pure := by
  intro l _ _ _
  obtain ⟨K, hK⟩ : ∃ K, K = 3000000 := ⟨_, rfl⟩
  refine ⟨K, ?_⟩
  unfold laws_FnExactSortKeys.f
  by_cases hb : (l.length : Int) > 1048576
  · rw [if_pos hb]
  have n0 : l.length ≤ 1048576 := by omega
  obtain ⟨r1, r2, e1, e2, hr0⟩ := keys_len l n0
  have n1 : l.length ≤ 100000000000 := by omega
  have hr : r1.length ≤ 100000000000 := by omega
  rw [if_neg hb, toInts_some l n1 K (by omega), Option.bind_some, e2, Option.bind_some, Option.bind_some, e1, Option.bind_some]
  simp only []
  rw [eqInts_some r1 hr K (by omega), Option.bind_some, if_pos rfl, bne_self_eq_false]
  obtain ⟨K, rfl⟩ : ∃ m, K = m + 1 := ⟨K - 1, by omega⟩
  have f1 := markInts_some l n1 1 (by omega) K (by omega)
  have f2 := markInts_some r1 hr 1 (by omega) (K - 1) (by omega)
  have f3 := heldInts_some 1 r1.length (by omega) hr (K - 1) (by omega)
  rw [show ((1 : Nat) : Int) = 1 from rfl] at f1 f2 f3
  rw [laws_FnExactSortKeys.j0, if_neg (by decide), toInts_some l n1 K (by omega), Option.bind_some, eqInts_some l n1 K (by omega), Option.bind_some, if_pos rfl, f1, Option.bind_some]
  simp only []
  rw [if_neg (by omega), eqInts_some r1 hr K (by omega), Option.bind_some, if_pos rfl, bne_self_eq_false]
  obtain ⟨K, rfl⟩ : ∃ m, K = m + 1 := ⟨K - 1, by omega⟩
  rw [Nat.add_sub_cancel] at f2 f3
  rw [laws_FnExactSortKeys.j1, if_neg (by decide), f2, Option.bind_some]
  simp only []
  rw [f3, Option.bind_some, if_neg (by omega), if_pos rfl, toInts_some l n1 K (by omega), Option.bind_some, e1, Option.bind_some]
  simp only []
  rw [eqInts_some r1 hr K (by omega), Option.bind_some, if_pos rfl, bne_self_eq_false]
  obtain ⟨K, rfl⟩ : ∃ m, K = m + 1 := ⟨K - 1, by omega⟩
  have f4 := heldInts_some 1 r1.length (by omega) hr K (by omega)
  rw [show ((1 : Nat) : Int) = 1 from rfl] at f4
  rw [laws_FnExactSortKeys.j2, if_neg (by decide), f4, Option.bind_some, if_neg (by omega), if_pos rfl]

end Go.Proofs.Ytdibbgldclgokaa.Pure
