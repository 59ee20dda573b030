/- The reference's product and quotient of doubles are IEEE's. Plain law; no condition beyond those of the theorems. -/
import Derived.Test.YtghjbadanhplnaaSpecZ
namespace Go.Proofs.Ytghjbadanhplnaa.PF
open Go.RowKit Go.Proofs.YtghjbadanhplnaaW.PrintWords Go.Proofs.YtghjbadanhplnaaW.PrintLast Go.Proofs.YtghjbadanhplnaaW.PrintMore Go.Proofs.Ytghjbadanhplnaa.Limb Go.Proofs.Ytghjbadanhplnaa.Ord Go.Proofs.Ytghjbadanhplnaa.Pure
open Ieee
set_option linter.unusedVariables false
set_option linter.unusedSimpArgs false

theorem units_zero (w : Nat) : unitsOf w = 0 ↔ rungOf w = 0 := by
  unfold unitsOf
  by_cases c : rungOf w < 4503599627370496
  · rw [if_pos c]
  · rw [if_neg c]
    have h1 := Nat.two_pow_pos (rungOf w / 4503599627370496 - 1)
    have h2 : 0 < (4503599627370496 + rungOf w % 4503599627370496) * 2 ^ (rungOf w / 4503599627370496 - 1) := Nat.mul_pos (by omega) h1
    omega
theorem zero_some (x : Int) (h0 : 0 ≤ x) (h1 : x < 18446744073709551616) : spec_l2IsZero.f x = some (decide (rungOf x.toNat = 0)) := by
  unfold spec_l2IsZero.f
  rw [abs_some x h0 h1]
  by_cases e : rungOf x.toNat = 0
  · rw [decide_eq_true e, e]
    rfl
  · rw [decide_eq_false e]
    have : ¬ ((rungOf x.toNat : Nat) : Int) = 0 := by omega
    simp [e]
theorem mul_nan' (a b : Nat) (h : infR < rungOf a ∨ infR < rungOf b) : double.mul a b = none := by
  unfold Format.mul
  rcases h with h | h
  · rw [read_nan a h]
    rfl
  · rw [read_nan b h]
    cases double.read a <;> rfl
theorem div_nan' (a b : Nat) (h : infR < rungOf a ∨ infR < rungOf b) : double.div a b = none := by
  unfold Format.div
  rcases h with h | h
  · rw [read_nan a h]
    rfl
  · rw [read_nan b h]
    cases double.read a <;> rfl
theorem mul_ii (a b : Nat) (h1 : rungOf a = infR) (h2 : rungOf b = infR) : double.mul a b = some (double.word (negOf a ^^ negOf b) double.infRung) := by
  unfold Format.mul
  rw [read_inf a h1, read_inf b h2]
  rfl
theorem fin_mag (b : Nat) (h : rungOf b < infR) : ∃ n p, double.read b = .number (negOf b) n p ∧ (n = 0 ↔ rungOf b = 0) := by
  obtain ⟨n, q, e2, u2⟩ := read_fin b h
  refine ⟨n, _, e2, ?_⟩
  rw [← units_zero, u2]
  have h1 := Nat.two_pow_pos q
  refine ⟨fun h => by rw [h, Nat.zero_mul], fun h => ?_⟩
  rcases Nat.mul_eq_zero.1 h with h | h
  · exact h
  · omega
theorem mul_if (a b : Nat) (h1 : rungOf a = infR) (h2 : rungOf b < infR) : double.mul a b = if rungOf b = 0 then none else some (double.word (negOf a ^^ negOf b) double.infRung) := by
  obtain ⟨n, p, e, z⟩ := fin_mag b h2
  unfold Format.mul
  rw [read_inf a h1, e]
  unfold Datum.product
  dsimp only
  by_cases c : n = 0
  · rw [if_pos c, if_pos (z.1 c)]
    rfl
  · rw [if_neg c, if_neg (fun h => c (z.2 h))]
    rfl
theorem mul_fi (a b : Nat) (h1 : rungOf a < infR) (h2 : rungOf b = infR) : double.mul a b = if rungOf a = 0 then none else some (double.word (negOf a ^^ negOf b) double.infRung) := by
  obtain ⟨n, p, e, z⟩ := fin_mag a h1
  unfold Format.mul
  rw [read_inf b h2, e]
  unfold Datum.product
  dsimp only
  by_cases c : n = 0
  · rw [if_pos c, if_pos (z.1 c)]
    rfl
  · rw [if_neg c, if_neg (fun h => c (z.2 h)), Bool.xor_comm]
    rfl
theorem div_ii (a b : Nat) (h1 : rungOf a = infR) (h2 : rungOf b = infR) : double.div a b = none := by
  unfold Format.div
  rw [read_inf a h1, read_inf b h2]
  rfl
theorem div_if (a b : Nat) (h1 : rungOf a = infR) (h2 : rungOf b < infR) : double.div a b = some (double.word (negOf a ^^ negOf b) double.infRung) := by
  obtain ⟨n, p, e, z⟩ := fin_mag b h2
  unfold Format.div
  rw [read_inf a h1, e]
  rfl
theorem div_fi (a b : Nat) (h1 : rungOf a < infR) (h2 : rungOf b = infR) : double.div a b = some (double.word (negOf a ^^ negOf b) 0) := by
  obtain ⟨n, p, e, z⟩ := fin_mag a h1
  unfold Format.div
  rw [read_inf b h2, e]
  show some (double.nearest (negOf a ^^ negOf b) 0 0) = _
  unfold Format.nearest
  rw [if_pos rfl]
theorem canon_word (neg : Bool) (r : Nat) (h : r ≤ infR) : canonW (double.word neg r) = wordOf neg (r : Int) := by
  have e := word_of neg r
  obtain ⟨_, f2, _⟩ := word_facts neg r _ h e
  rw [canon_low _ (by omega), e]
theorem xor_ne (x y : Bool) : (x ^^ y) = (x != y) := by cases x <;> cases y <;> rfl
theorem l2times_some (a b : Int) (ha0 : 0 ≤ a) (ha1 : a < 18446744073709551616) (hb0 : 0 ≤ b) (hb1 : b < 18446744073709551616) (k : Nat) (hk : 1200000 ≤ k) : spec_l2Times.f k a b = some (canonZ (double.mul a.toNat b.toNat)) := by
  obtain ⟨k, rfl⟩ : ∃ m, k = m + 2 := ⟨k - 2, by omega⟩
  unfold spec_l2Times.f
  rw [neg_some a ha0 ha1, Option.bind_some, neg_some b hb0 hb1, Option.bind_some, nan_some a ha0 ha1, Option.bind_some]
  by_cases na : infR < rungOf a.toNat
  · rw [if_pos (decide_eq_true na), mul_nan' _ _ (Or.inl na), spec_l2Times.j0, if_pos rfl]
    rfl
  rw [if_neg (by simpa using na), nan_some b hb0 hb1, Option.bind_some]
  by_cases nb : infR < rungOf b.toNat
  · rw [if_pos (decide_eq_true nb), mul_nan' _ _ (Or.inr nb), spec_l2Times.j0, if_pos rfl]
    rfl
  rw [if_neg (by simpa using nb), inf_some a ha0 ha1, Option.bind_some]
  rw [zero_some a ha0 ha1, zero_some b hb0 hb1, inf_some b hb0 hb1]
  simp only [Option.bind_some]
  have hset : spec_l2Set.f (negOf a.toNat != negOf b.toNat) 9218868437227405312 = some (wordOf (negOf a.toNat != negOf b.toNat) 9218868437227405312) := set_some _ _ (by decide) (by decide)
  have hw : canonZ (some (double.word (negOf a.toNat ^^ negOf b.toNat) double.infRung)) = wordOf (negOf a.toNat != negOf b.toNat) 9218868437227405312 := by
    rw [← xor_ne]
    exact canon_word _ _ (Nat.le_refl _)
  have hi := hiR
  have inf_arm : spec_l2Times.j1 (k + 1) a b (negOf a.toNat != negOf b.toNat) true = some (wordOf (negOf a.toNat != negOf b.toNat) 9218868437227405312) := by
    rw [spec_l2Times.j1, if_pos rfl, hset, Option.bind_some]
  by_cases ia : rungOf a.toNat = infR
  · rw [if_pos (decide_eq_true ia)]
    by_cases ib : rungOf b.toNat = infR
    · rw [if_neg (by simp; omega), if_neg (by simp; omega), spec_l2Times.j0, if_neg (by decide), inf_some a ha0 ha1, Option.bind_some, if_pos (decide_eq_true ia), inf_arm, mul_ii _ _ ia ib, hw]
    · rw [mul_if _ _ ia (by omega)]
      by_cases zb : rungOf b.toNat = 0
      · rw [if_pos (decide_eq_true zb), spec_l2Times.j0, if_pos rfl, if_pos zb]
        rfl
      · rw [if_neg (by simpa using zb), if_neg (by simp; omega), spec_l2Times.j0, if_neg (by decide), inf_some a ha0 ha1, Option.bind_some, if_pos (decide_eq_true ia), inf_arm, if_neg zb, hw]
  rw [if_neg (by simpa using ia)]
  have fa : rungOf a.toNat < infR := by omega
  by_cases ib : rungOf b.toNat = infR
  · rw [mul_fi _ _ fa ib]
    by_cases za : rungOf a.toNat = 0
    · rw [if_pos (decide_eq_true za), decide_eq_true ib, spec_l2Times.j0, if_pos rfl, if_pos za]
      rfl
    · rw [if_neg (by simpa using za), spec_l2Times.j0, if_neg (by decide), inf_some a ha0 ha1, Option.bind_some, if_neg (by simpa using ia), inf_some b hb0 hb1, Option.bind_some, decide_eq_true ib, inf_arm, if_neg za, hw]
  have fb : rungOf b.toNat < infR := by omega
  have hj : ∀ z, z = false → spec_l2Times.j0 (k + 2) a b (negOf a.toNat != negOf b.toNat) z = some (canonZ (double.mul a.toNat b.toNat)) := by
    intro z hz
    subst hz
    rw [spec_l2Times.j0, if_neg (by decide), inf_some a ha0 ha1, Option.bind_some, if_neg (by simpa using ia), inf_some b hb0 hb1, Option.bind_some, decide_eq_false ib, spec_l2Times.j1, if_neg (by decide)]
    obtain ⟨la, a1, a2, a3⟩ := units_some a ha0 ha1 fa k (by omega)
    obtain ⟨lb, b1, b2, b3⟩ := units_some b hb0 hb1 fb k (by omega)
    obtain ⟨lo, o1, o2, o3⟩ := one_some k (by omega)
    have hq1 : (la.length + 1) * (lb.length + 2) ≤ 101 * 102 := Nat.mul_le_mul (by omega) (by omega)
    obtain ⟨lm, m1, m2, m3⟩ := mul_some la lb _ _ a2 b2 (by omega) k (by omega)
    have hq2 : (lo.length + 1) * (lo.length + 2) ≤ 101 * 102 := Nat.mul_le_mul (by omega) (by omega)
    obtain ⟨ld, d1, d2, d3⟩ := mul_some lo lo _ _ o2 o2 (by omega) k (by omega)
    rw [a1, Option.bind_some, b1, Option.bind_some, m1, Option.bind_some, o1, Option.bind_some, Option.bind_some, d1, Option.bind_some]
    rw [round_some _ lm ld _ _ m2 d2 (Int.mul_pos (p2_pos _) (p2_pos _)) (by omega) (by omega), Option.bind_some]
    obtain ⟨r, hr, er⟩ := mul_fin _ _ fa fb
    rw [hr]
    show _ = some (canonW r)
    rw [canon_RW _ _ _ (Int.mul_nonneg (by omega) (by omega)) (p2_pos _) r er, RWw_scale _ _ _ _ (p2_pos _), xor_ne]
  by_cases za : rungOf a.toNat = 0
  · rw [if_pos (decide_eq_true za)]
    exact hj _ (by simpa using ib)
  · rw [if_neg (by simpa using za)]
    exact hj _ rfl
theorem l2over_some (a b : Int) (ha0 : 0 ≤ a) (ha1 : a < 18446744073709551616) (hb0 : 0 ≤ b) (hb1 : b < 18446744073709551616) (hz : rungOf b.toNat ≠ 0) (k : Nat) (hk : 1200000 ≤ k) : spec_l2Over.f k a b = some (canonZ (double.div a.toNat b.toNat)) := by
  obtain ⟨k, rfl⟩ : ∃ m, k = m + 1 := ⟨k - 1, by omega⟩
  unfold spec_l2Over.f
  rw [neg_some a ha0 ha1, Option.bind_some, neg_some b hb0 hb1, Option.bind_some, nan_some a ha0 ha1, Option.bind_some]
  by_cases na : infR < rungOf a.toNat
  · rw [if_pos (decide_eq_true na), div_nan' _ _ (Or.inl na), spec_l2Over.j0, if_pos rfl]
    rfl
  rw [if_neg (by simpa using na), nan_some b hb0 hb1, Option.bind_some]
  by_cases nb : infR < rungOf b.toNat
  · rw [if_pos (decide_eq_true nb), div_nan' _ _ (Or.inr nb), spec_l2Over.j0, if_pos rfl]
    rfl
  rw [if_neg (by simpa using nb), inf_some a ha0 ha1, Option.bind_some, inf_some b hb0 hb1]
  simp only [Option.bind_some]
  have hset : spec_l2Set.f (negOf a.toNat != negOf b.toNat) 9218868437227405312 = some (wordOf (negOf a.toNat != negOf b.toNat) 9218868437227405312) := set_some _ _ (by decide) (by decide)
  have hset0 : spec_l2Set.f (negOf a.toNat != negOf b.toNat) 0 = some (wordOf (negOf a.toNat != negOf b.toNat) 0) := set_some _ _ (by decide) (by decide)
  by_cases ia : rungOf a.toNat = infR
  · rw [if_pos (decide_eq_true ia)]
    by_cases ib : rungOf b.toNat = infR
    · rw [decide_eq_true ib, spec_l2Over.j0, if_pos rfl, div_ii _ _ ia ib]
      rfl
    · rw [decide_eq_false ib, spec_l2Over.j0, if_neg (by decide), inf_some a ha0 ha1, Option.bind_some, if_pos (decide_eq_true ia), hset, Option.bind_some, div_if _ _ ia (by omega), ← xor_ne]
      exact congrArg some (canon_word _ _ (Nat.le_refl _)).symm
  rw [if_neg (by simpa using ia), spec_l2Over.j0, if_neg (by decide), inf_some a ha0 ha1, Option.bind_some, if_neg (by simpa using ia), inf_some b hb0 hb1, Option.bind_some]
  have fa : rungOf a.toNat < infR := by omega
  by_cases ib : rungOf b.toNat = infR
  · rw [if_pos (decide_eq_true ib), hset0, Option.bind_some, div_fi _ _ fa ib, ← xor_ne]
    exact congrArg some (canon_word _ 0 (Nat.zero_le _)).symm
  have fb : rungOf b.toNat < infR := by omega
  rw [if_neg (by simpa using ib)]
  obtain ⟨la, a1, a2, a3⟩ := units_some a ha0 ha1 fa k (by omega)
  obtain ⟨lb, b1, b2, b3⟩ := units_some b hb0 hb1 fb k (by omega)
  have hub : unitsOf b.toNat ≠ 0 := fun h => hz ((units_zero _).1 h)
  rw [a1, Option.bind_some, b1, Option.bind_some, round_some _ la lb _ _ a2 b2 (by omega) (by omega) (by omega), Option.bind_some]
  obtain ⟨r, hr, er⟩ := div_fin _ _ fa fb hub
  rw [hr]
  show _ = some (canonW r)
  rw [canon_RW _ _ _ (Int.mul_nonneg (by omega) (Int.le_of_lt (p2_pos _))) (by omega) r er, xor_ne]
end Go.Proofs.Ytghjbadanhplnaa.PF
