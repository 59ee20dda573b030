/- The reference's cut, on a well formed dict, and the program's. Plain law; no condition beyond those of the theorems. -/
import Derived.Test.YtohilfkdfcihgaaPutK
import Derived.Test.YtohilfkdfcihgaaPDkx4
import Derived.Test.YtohilfkdfcihgaaGCut
set_option linter.unusedVariables false
set_option linter.unusedSimpArgs false
namespace Go.Proofs.Ytohilfkdfcihgaa.DictT
open Go.RowKit Go.Proofs.Ytohilfkdfcihgaa.PDi Go.Proofs.YtohilfkdfcihgaaW.PrintWords Go.Proofs.YtohilfkdfcihgaaW.PrintLast Go.Proofs.YtohilfkdfcihgaaW.PrintMore
def specCut (k : Nat) (l0_0 : List Int) (l0_1 : List (S62)) (a0_2 : Int) (a1 : Int) (a2 : Int) : Option (List Int × (List (S62)) × Int × Bool) := (spec_DictOk.f k l0_0 l0_1 a0_2).bind fun t139 => (if t139 = true then ((spec_l7Cut.f k l0_0 l0_1 a0_2 a1 a2).bind fun bt140 => (some (bt140.1, bt140.2.1, bt140.2.2.1, bt140.2.2.2))) else (some (([] : List Int), ([] : List (S62)), 0, false)))
theorem cut_both (T : List Int) (E : List S62) (live hash key : Int) (hT : T.length < 1000000000000) (hE : E.length < 1000000000000) (hH : ∀ e ∈ E, 0 ≤ e.f0 ∧ e.f0 ≤ 18446744073709551615) (h0 : 0 ≤ hash) (h1 : hash ≤ 18446744073709551615) :
    ∃ r : List Int × List S62 × Int × Bool, impl_DictCut.f T E live hash key = some r ∧ (∀ k, 6000000000 ≤ k → specCut k T E live hash key = some r) ∧ r.1.length ≤ 1000000 ∧ r.2.1.length ≤ 1000000 := by
  obtain ⟨b, hb1, hb2, hb3⟩ := ok_both T E live hT hE hH
  unfold impl_DictCut.f specCut
  cases b with
  | false =>
    refine ⟨([], [], 0, false), by rw [hb1]; rfl, fun k hk => by rw [hb2 k hk]; rfl, by simp, by simp⟩
  | true =>
    obtain ⟨m, m3, m16, hm, hle, hlt, h6, ht, hI, hgz, hnd, hc⟩ := hb3 rfl
    obtain ⟨J, hJ, hs, hmin, hf1, hf2⟩ := find_both m T.length hm h6 E hlt T hI live hash key h0 h1
    have hcr := cntI_range E
    have hfi := find_in hI hash (by omega) J
    by_cases hp : rd T (path hash T.length J) < 0
    · rw [if_pos hp] at hf1 hf2
      refine ⟨(T, E, live, false), ?_, fun k hk => ?_, by show T.length ≤ _; omega, by show E.length ≤ _; omega⟩
      · rw [hb1]
        simp only [Option.bind_some]
        rw [if_pos trivial, if_pos ⟨by omega, by omega⟩]
        unfold ycutM
        rw [if_pos ⟨by omega, by omega⟩, hf1]
        rfl
      · rw [hb2 k hk]
        simp only [Option.bind_some]
        rw [if_pos trivial]
        unfold spec_l7Cut.f
        rw [spec_copy T E live (by omega) (by omega)]
        simp only [Option.bind_some]
        rw [hf2 k (by omega)]
        rfl
    · rw [if_neg hp] at hf1 hf2
      refine ⟨(T, E.set (rd T (path hash T.length J)).toNat ⟨hash, 0, 0, true⟩, live - 1, true), ?_, fun k hk => ?_, by show T.length ≤ _; omega, by show (E.set _ _).length ≤ _; rw [List.length_set]; omega⟩
      · rw [hb1]
        simp only [Option.bind_some]
        rw [if_pos trivial, if_pos ⟨by omega, by omega⟩]
        unfold ycutM
        rw [if_pos ⟨by omega, by omega⟩, hf1]
        simp only [Option.bind_some]
        rw [if_pos (by omega), if_pos hfi]
      · rw [hb2 k hk]
        simp only [Option.bind_some]
        rw [if_pos trivial]
        unfold spec_l7Cut.f
        rw [spec_copy T E live (by omega) (by omega)]
        simp only [Option.bind_some]
        rw [hf2 k (by omega)]
        simp only [Option.bind_some]
        rw [if_neg hp, if_pos (by omega), if_pos hfi, wrap_in (live - 1) (by omega) (by omega)]
        rfl
end Go.Proofs.Ytohilfkdfcihgaa.DictT
