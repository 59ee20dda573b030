/- What the program's and the reference's DictCut come to: the same; and what the marks of a dict are. Plain law; no condition beyond those of the theorems. -/
import Derived.Test.YtohilfkdfcihgaaDictM
import Derived.Test.YtohilfkdfcihgaaDictN
import Derived.Test.YtohilfkdfcihgaaPDcx1
import Derived.Test.YtohilfkdfcihgaaGCut
set_option linter.unusedVariables false
set_option linter.unusedSimpArgs false
namespace Go.Proofs.Ytohilfkdfcihgaa.DictW
open Go.RowKit Go.Proofs.Ytohilfkdfcihgaa.PDi Go.Proofs.YtohilfkdfcihgaaW.PrintWords Go.Proofs.YtohilfkdfcihgaaW.PrintLast Go.Proofs.YtohilfkdfcihgaaW.PrintMore

theorem laws_markInt64S_loop (d : Nat) : ∀ (k i : Nat) (x : List Int) (v : Int), x.length = i + d → x.length < 4000000000000000000 → 0 ≤ v → v + d < 9000000000000000000 → d < k → laws_markInt64S.l0 k x v (i : Int) = some (v + d, x.take i ++ seqFrom v d) := by
  induction d with
  | zero =>
    intro k i x v h1 hx hv hvd h2
    obtain ⟨k, rfl⟩ : ∃ m, k = m + 1 := ⟨k - 1, by omega⟩
    simp only [laws_markInt64S.l0]
    rw [if_neg (by omega), List.take_of_length_le (by omega)]
    simp [seqFrom]
  | succ d ih =>
    intro k i x v h1 hx hv hvd h2
    obtain ⟨k, rfl⟩ : ∃ m, k = m + 1 := ⟨k - 1, by omega⟩
    simp only [laws_markInt64S.l0]
    rw [if_pos (by omega), if_pos (by omega), wrap_succ i (by omega), Int.toNat_natCast, wrap_in (v + 1) (by omega) (by omega)]
    rw [ih k (i + 1) (x.set i v) (v + 1) (by rw [List.length_set]; omega) (by rw [List.length_set]; omega) (by omega) (by omega) (by omega), take_set_self (by omega)]
    simp only [seqFrom, List.append_assoc, List.singleton_append]
    congr 2
    omega

theorem laws_markInt64S_some (x : List Int) (k : Nat) (hx : x.length < 4000000000000000000) (hk : x.length < k) : laws_markInt64S.f k x 1 = some (1 + (x.length : Int), seqFrom 1 x.length) := by
  unfold laws_markInt64S.f
  rw [show (0 : Int) = ((0 : Nat) : Int) from rfl, laws_markInt64S_loop x.length k 0 x 1 (by omega) hx (by omega) (by omega) hk]
  simp

theorem markE_loop (d : Nat) : ∀ (k i : Nat) (x : List S62) (v : Int), x.length = i + d → x.length < 1000000000000000000 → 0 ≤ v → v + 4 * d < 9000000000000000000 → d < k → laws_markDEntryS.l0 k x v (i : Int) = some (v + 4 * d, x.take i ++ seqE v d) := by
  induction d with
  | zero =>
    intro k i x v h1 hx hv hvd h2
    obtain ⟨k, rfl⟩ : ∃ m, k = m + 1 := ⟨k - 1, by omega⟩
    simp only [laws_markDEntryS.l0]
    rw [if_neg (by omega), List.take_of_length_le (by omega)]
    simp [seqE]
  | succ d ih =>
    intro k i x v h1 hx hv hvd h2
    obtain ⟨k, rfl⟩ : ∃ m, k = m + 1 := ⟨k - 1, by omega⟩
    simp only [laws_markDEntryS.l0, Option.bind_some]
    rw [if_pos (by omega), if_pos (by omega), wrap_succ i (by omega), Int.toNat_natCast, wrap_in (v + 1) (by omega) (by omega), wrap_in (v + 1 + 1) (by omega) (by omega), wrap_in (v + 1 + 1 + 1) (by omega) (by omega), wrap_in (v + 1 + 1 + 1 + 1) (by omega) (by omega), u64_small v hv (by omega)]
    simp only [List.set_set, List.length_set, rd62_set _ _ _ (show i < x.length by omega)]
    have e1 : v + 1 + 1 = v + 2 := by omega
    have e2 : v + 2 + 1 = v + 3 := by omega
    have e3 : v + 3 + 1 = v + 4 := by omega
    rw [e1, e2, e3]
    rw [ih k (i + 1) (x.set i ⟨v, v + 1, v + 2, (Int.tmod (v + 3) 3 == 0)⟩) (v + 4) (by rw [List.length_set]; omega) (by rw [List.length_set]; omega) (by omega) (by omega) (by omega), take_set_self (by omega)]
    simp only [seqE, mkE, List.append_assoc, List.singleton_append]
    congr 2
    omega

theorem markDict_some (T : List Int) (E : List S62) (live : Int) (h1 : T.length ≤ 1000000000) (h2 : E.length ≤ 1000000000) (k : Nat) (hk1 : T.length < k) (hk2 : E.length < k) :
    laws_markDict.f k T E live 1 = some (1 + (T.length : Int) + 4 * E.length, seqFrom 1 T.length, seqE (1 + (T.length : Int)) E.length) := by
  unfold laws_markDict.f
  rw [laws_markInt64S_some T k (by omega) hk1]
  simp only [Option.bind_some]
  unfold laws_markDEntryS.f
  rw [show (0 : Int) = ((0 : Nat) : Int) from rfl, markE_loop E.length k 0 E (1 + (T.length : Int)) (by omega) (by omega) (by omega) (by omega) hk2]
  simp

end Go.Proofs.Ytohilfkdfcihgaa.DictW

set_option linter.unusedVariables false
set_option linter.unusedSimpArgs false
namespace Go.Proofs.Ytohilfkdfcihgaa.DictT
open Go.RowKit Go.Proofs.Ytohilfkdfcihgaa.PDi Go.Proofs.YtohilfkdfcihgaaW.PrintWords Go.Proofs.YtohilfkdfcihgaaW.PrintLast Go.Proofs.YtohilfkdfcihgaaW.PrintMore

theorem spec_copy (T : List Int) (E : List S62) (live : Int) (hT : T.length ≤ 1000000) (hE : E.length ≤ 1000000) : spec_l7Copy.f T E live = some (T, E, live) := by
  unfold spec_l7Copy.f
  simp only [Option.bind_some, List.nil_append, List.length_nil, Nat.zero_add]
  rw [if_pos (by omega), if_pos (by omega)]

/-- The place that a search finds lies in the entries. -/
theorem find_in {n : Nat} {E : List S62} {T : List Int} (hI : Inv n E E.length T) (h : Int) (hn : 0 < n) (J : Nat) : rd T (path h n J) < E.length := by
  have hr := path_range h n (by omega) J
  exact (hI.hi _ (rd_mem T _ hr.1 (by rw [hI.len]; exact hr.2))).2

theorem cut_both (T : List Int) (E : List S62) (live hash key : Int) (hT : T.length < 1000000000000) (hE : E.length < 1000000000000) (hH : ∀ e ∈ E, 0 ≤ e.f0 ∧ e.f0 ≤ 18446744073709551615) (h0 : 0 ≤ hash) (h1 : hash ≤ 18446744073709551615) :
    ∃ r : List Int × List S62 × Int × Bool, impl_DictCut.f T E live hash key = some r ∧ (∀ k, 6000000000 ≤ k → spec_DictCut.f k T E live hash key = some r) ∧ r.1.length ≤ 1000000 ∧ r.2.1.length ≤ 1000000 := by
  obtain ⟨b, hb1, hb2, hb3⟩ := ok_both T E live hT hE hH
  unfold impl_DictCut.f spec_DictCut.f
  cases b with
  | false =>
    refine ⟨([], [], 0, false), by rw [hb1]; rfl, fun k hk => by rw [hb2 k hk]; rfl, by simp, by simp⟩
  | true =>
    obtain ⟨m, m3, m16, hm, hle, hlt, h6, ht, hI, hgz, hnd, hc⟩ := hb3 rfl
    obtain ⟨J, hJ, hs, hmin, hf1, hf2⟩ := find_both m T.length hm h6 E hlt T hI live hash key h0 h1
    have hcr := cntI_range E
    have hfi := find_in hI hash (by omega) J
    by_cases hp : rd T (path hash T.length J) < 0
    · rw [if_pos hp] at hf1 hf2
      refine ⟨(T, E, live, false), ?_, fun k hk => ?_, by show T.length ≤ _; omega, by show E.length ≤ _; omega⟩
      · rw [hb1]
        simp only [Option.bind_some]
        rw [if_pos trivial, if_pos ⟨by omega, by omega⟩]
        unfold ycutM
        rw [if_pos ⟨by omega, by omega⟩, hf1]
        rfl
      · rw [hb2 k hk]
        simp only [Option.bind_some]
        rw [if_pos trivial]
        unfold spec_l7Cut.f
        rw [spec_copy T E live (by omega) (by omega)]
        simp only [Option.bind_some]
        rw [hf2 k (by omega)]
        rfl
    · rw [if_neg hp] at hf1 hf2
      refine ⟨(T, E.set (rd T (path hash T.length J)).toNat ⟨hash, 0, 0, true⟩, live - 1, true), ?_, fun k hk => ?_, by show T.length ≤ _; omega, by show (E.set _ _).length ≤ _; rw [List.length_set]; omega⟩
      · rw [hb1]
        simp only [Option.bind_some]
        rw [if_pos trivial, if_pos ⟨by omega, by omega⟩]
        unfold ycutM
        rw [if_pos ⟨by omega, by omega⟩, hf1]
        simp only [Option.bind_some]
        rw [if_pos (by omega), if_pos hfi]
      · rw [hb2 k hk]
        simp only [Option.bind_some]
        rw [if_pos trivial]
        unfold spec_l7Cut.f
        rw [spec_copy T E live (by omega) (by omega)]
        simp only [Option.bind_some]
        rw [hf2 k (by omega)]
        simp only [Option.bind_some]
        rw [if_neg hp, if_pos (by omega), if_pos hfi, wrap_in (live - 1) (by omega) (by omega)]
        rfl

end Go.Proofs.Ytohilfkdfcihgaa.DictT
