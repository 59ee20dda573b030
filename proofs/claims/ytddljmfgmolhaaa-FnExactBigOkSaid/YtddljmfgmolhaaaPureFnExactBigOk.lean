/- At every Big whose magnitude is a slice of 32-bit words, the program's BigOk answers as the reference's and leaves its argument as it was. No condition. -/
import Derived.Test.YtddljmfgmolhaaaPBigx2
namespace Go.Proofs.Ytddljmfgmolhaaa.Pure
open Go.RowKit Go.Proofs.Ytddljmfgmolhaaa.PBig Go.Proofs.YtddljmfgmolhaaaW.PrintWords Go.Proofs.YtddljmfgmolhaaaW.PrintLast

theorem take_set_succ {α : Type} {x3 x0 : List α} {i : Nat} {v : α} (h : x3.take i = x0.take i) (hl : x3.length = x0.length) (hv : x0[i]? = some v) : (x3.set i v).take (i + 1) = x0.take (i + 1) := by
  have hi : i < x0.length := (List.getElem?_eq_some_iff.1 hv).1
  apply List.ext_getElem?
  intro j
  by_cases hj : j < i
  · have := congrArg (fun l => l[j]?) h
    simp only [List.getElem?_take, hj, if_true] at this
    simp only [List.getElem?_take, show j < i + 1 by omega, if_true, List.getElem?_set, show i ≠ j by omega, if_false]
    exact this
  · by_cases hj2 : j = i
    · subst hj2
      simp only [List.getElem?_take, show j < j + 1 by omega, if_true, List.getElem?_set, hl, hi]
      exact hv.symm
    · simp only [List.getElem?_take, show ¬ j < i + 1 by omega, if_false]

theorem rd_at (x : List Int) (i : Nat) (h : i < x.length) : x[i]? = some (rd x (i : Int)) := by
  simp [rd, List.getElem?_eq_getElem h]

theorem wrap_succ (i : Nat) (h : i < 9000000000000000000) : wrap64 ((i : Int) + 1) = ((i + 1 : Nat) : Int) := by
  unfold wrap64
  omega

theorem to_loop (x0 : List Int) (hn : x0.length < 9000000000000000000) (d : Nat) : ∀ (k i : Nat) (x3 : List Int), x0.length = i + d → d < k → x3.length = x0.length → x3.take i = x0.take i → laws_toUint32S.l0 k x0 x3 (i : Int) = some x0 := by
  induction d with
  | zero =>
    intro k i x3 h1 h2 h3 h4
    obtain ⟨k, rfl⟩ : ∃ m, k = m + 1 := ⟨k - 1, by omega⟩
    simp only [laws_toUint32S.l0]
    rw [if_neg (by omega)]
    rw [List.take_of_length_le (by omega), List.take_of_length_le (by omega)] at h4
    rw [h4]
  | succ d ih =>
    intro k i x3 h1 h2 h3 h4
    obtain ⟨k, rfl⟩ : ∃ m, k = m + 1 := ⟨k - 1, by omega⟩
    simp only [laws_toUint32S.l0]
    rw [if_pos (by omega), if_pos (by omega), if_pos (by omega), wrap_succ i (by omega), Int.toNat_natCast]
    exact ih k (i + 1) _ (by omega) (by omega) (by rw [List.length_set]; exact h3) (take_set_succ h4 h3 (rd_at x0 i (by omega)))

theorem to_some (x : List Int) (hn : x.length ≤ 70368744177664) (k : Nat) (hk : x.length < k) : laws_toUint32S.f k x = some x := by
  unfold laws_toUint32S.f
  rw [if_pos (by omega), if_pos (by omega)]
  exact to_loop x (by omega) x.length k 0 _ (by omega) hk (by simp) (by simp)

theorem eq_loop (x : List Int) (hn : x.length < 9000000000000000000) (d : Nat) : ∀ (k i : Nat), x.length = i + d → d < k → laws_eqUint32S.l0 k x x (i : Int) = some true := by
  induction d with
  | zero =>
    intro k i h1 h2
    obtain ⟨k, rfl⟩ : ∃ m, k = m + 1 := ⟨k - 1, by omega⟩
    simp only [laws_eqUint32S.l0]
    rw [if_neg (by omega)]
  | succ d ih =>
    intro k i h1 h2
    obtain ⟨k, rfl⟩ : ∃ m, k = m + 1 := ⟨k - 1, by omega⟩
    simp only [laws_eqUint32S.l0]
    rw [if_pos (by omega), if_pos (by omega), if_pos (by omega), if_pos trivial, wrap_succ i (by omega)]
    exact ih k (i + 1) (by omega) (by omega)

theorem eq_some (x : List Int) (hn : x.length < 9000000000000000000) (k : Nat) (hk : x.length < k) : laws_eqUint32S.f k x x = some true := by
  unfold laws_eqUint32S.f
  rw [if_pos rfl]
  exact eq_loop x hn x.length k 0 (by omega) hk

theorem both (b : Bool) (x : List Int) : impl_BigOk.f b x = spec_BigOk.f b x := by
  unfold impl_BigOk.f spec_BigOk.f
  by_cases h0 : (x.length : Int) = 0
  · obtain rfl : x = [] := List.eq_nil_of_length_eq_zero (by omega)
    rfl
  · have hp : (x.length : Int) > 0 := by omega
    by_cases h1 : (x.length : Int) ≤ 128
    · have hw : wrap64 ((x.length : Int) - 1) = (x.length : Int) - 1 := by unfold wrap64; omega
      have h2 : 0 ≤ (x.length : Int) - 1 := by omega
      have h3 : (x.length : Int) - 1 < (x.length : Int) := by omega
      simp only [hw, if_neg h0, if_pos h1, if_pos hp, if_pos h2, if_pos h3]
      by_cases h4 : rd x ((x.length : Int) - 1) = 0
      · rw [if_pos h4, h4]; rfl
      · rw [if_neg h4]
        congr 1
        exact (bne_iff_ne.2 h4).symm
    · simp only [if_neg h0, if_neg h1]

theorem spec_total (b : Bool) (x : List Int) : ∃ r, spec_BigOk.f b x = some r := by
  unfold spec_BigOk.f
  by_cases h0 : (x.length : Int) = 0
  · rw [if_pos h0]; exact ⟨_, rfl⟩
  · rw [if_neg h0]
    by_cases h1 : (x.length : Int) ≤ 128
    · have hw : wrap64 ((x.length : Int) - 1) = (x.length : Int) - 1 := by unfold wrap64; omega
      rw [if_pos h1, hw, if_pos (by omega), if_pos (by omega)]; exact ⟨_, rfl⟩
    · rw [if_neg h1]; exact ⟨_, rfl⟩

theorem FnExactBigOk : ∀ (a0_0 : Bool) (l0_1 : List Int), (l0_1.length * 4 ≤ 140737488351232 ∧ ∀ x ∈ l0_1, (Lit.int .u32 x).wf = true) → ∃ k, laws_FnExactBigOk.f k a0_0 l0_1 = some true := by
  intro b l ⟨hl, _⟩
  obtain ⟨r, hr⟩ := spec_total b l
  refine ⟨l.length + 1, ?_⟩
  have hto : laws_toBig.f (l.length + 1) b l = some (b, l) := by
    unfold laws_toBig.f
    rw [to_some l (by omega) _ (by omega)]
    rfl
  have heq : laws_eqBig.f (l.length + 1) b l b l = some true := by
    unfold laws_eqBig.f
    rw [if_neg (by simp), eq_some l (by omega) _ (by omega)]
    rfl
  unfold laws_FnExactBigOk.f laws_szBig.f laws_szUint32S.f
  by_cases h : wrap64 (1048576 - (l.length : Int)) < 0
  · rw [if_pos h]; rfl
  · rw [if_neg h]
    simp only [Option.bind_some]
    rw [if_neg h]
    simp only [Option.bind_some]
    rw [if_neg h, hto]
    simp only [Option.bind_some]
    rw [hr]
    simp only [Option.bind_some]
    rw [both, hr]
    simp only [Option.bind_some]
    rw [if_neg (by simp), heq]
    rfl

end Go.Proofs.Ytddljmfgmolhaaa.Pure
