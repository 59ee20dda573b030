/- Sums and products of doubles do not ask for an order; the order turned is the opposite; a double less itself. Plain law; no condition beyond those of the theorems. -/
import Derived.Test.YtghjbadanhplnaaPureFnExactFloatOp
namespace Go.Proofs.Ytghjbadanhplnaa.PF
open Go.RowKit Go.Proofs.Ytghjbadanhplnaa.Pure Go.Proofs.Ytghjbadanhplnaa.Ord Go.Proofs.Ytghjbadanhplnaa.Limb Go.Proofs.YtghjbadanhplnaaW.PrintWords Go.Proofs.YtghjbadanhplnaaW.PrintLast
open Ieee
set_option linter.unusedVariables false
set_option linter.unusedSimpArgs false

theorem add_comm' (a b : Nat) (ha : a < 18446744073709551616) (hb : b < 18446744073709551616) : double.add a b = double.add b a := by
  have hi := hiR
  by_cases na : infR < rungOf a
  · rw [add_nan a b (Or.inl na), add_nan b a (Or.inr na)]
  by_cases nb : infR < rungOf b
  · rw [add_nan a b (Or.inr nb), add_nan b a (Or.inl nb)]
  by_cases ia : rungOf a = infR
  · by_cases ib : rungOf b = infR
    · rw [add_ii a b ha ia ib, add_ii b a hb ib ia]
      by_cases c : negOf a = negOf b
      · have h1 := inf_word a ha ia
        have h2 := inf_word b hb ib
        rw [if_pos c, if_pos c.symm]
        rw [c] at h1
        exact congrArg some (h1.symm.trans h2)
      · rw [if_neg c, if_neg (fun h => c h.symm)]
    · rw [add_if a b ha ia (by omega), add_fi b a ha (by omega) ia]
  by_cases ib : rungOf b = infR
  · rw [add_fi a b hb (by omega) ib, add_if b a hb ib (by omega)]
  obtain ⟨r, h1, e1⟩ := add_fin a b (by omega) (by omega)
  obtain ⟨s, h2, e2⟩ := add_fin b a (by omega) (by omega)
  rw [h1, h2]
  rw [Int.add_comm (sUnits b), Bool.and_comm (negOf b)] at e2
  congr 1
  omega
theorem mul_comm' (a b : Nat) : double.mul a b = double.mul b a := by
  have hi := hiR
  by_cases na : infR < rungOf a
  · rw [mul_nan' a b (Or.inl na), mul_nan' b a (Or.inr na)]
  by_cases nb : infR < rungOf b
  · rw [mul_nan' a b (Or.inr nb), mul_nan' b a (Or.inl nb)]
  by_cases ia : rungOf a = infR
  · by_cases ib : rungOf b = infR
    · rw [mul_ii a b ia ib, mul_ii b a ib ia, Bool.xor_comm]
    · rw [mul_if a b ia (by omega), mul_fi b a (by omega) ia, Bool.xor_comm]
  by_cases ib : rungOf b = infR
  · rw [mul_fi a b (by omega) ib, mul_if b a ib (by omega), Bool.xor_comm]
  obtain ⟨r, h1, e1⟩ := mul_fin a b (by omega) (by omega)
  obtain ⟨s, h2, e2⟩ := mul_fin b a (by omega) (by omega)
  rw [h1, h2]
  rw [Int.mul_comm (unitsOf b : Int), Bool.xor_comm (negOf b)] at e2
  congr 1
  omega
theorem order_swap (a b : Nat) (na : ¬ infR < rungOf a) (nb : ¬ infR < rungOf b) : (double.order a b = some .lt ∧ double.order b a = some .gt) ∨ (double.order a b = some .gt ∧ double.order b a = some .lt) ∨ (double.order a b = some .eq ∧ double.order b a = some .eq) := by
  by_cases ia : rungOf a = infR
  · by_cases ib : rungOf b = infR
    · rw [order_ii a b ia ib, order_ii b a ib ia]
      cases negOf a <;> cases negOf b
      · exact Or.inr (Or.inr ⟨rfl, rfl⟩)
      · exact Or.inr (Or.inl ⟨rfl, rfl⟩)
      · exact Or.inl ⟨rfl, rfl⟩
      · exact Or.inr (Or.inr ⟨rfl, rfl⟩)
    · rw [order_if a b ia (by omega), order_fi b a (by omega) ia]
      cases negOf a
      · exact Or.inr (Or.inl ⟨rfl, rfl⟩)
      · exact Or.inl ⟨rfl, rfl⟩
  by_cases ib : rungOf b = infR
  · rw [order_fi a b (by omega) ib, order_if b a ib (by omega)]
    cases negOf b
    · exact Or.inl ⟨rfl, rfl⟩
    · exact Or.inr (Or.inl ⟨rfl, rfl⟩)
  rw [order_fin a b (by omega) (by omega), order_fin b a (by omega) (by omega), cmp_int, cmp_int]
  generalize sUnits a = u
  generalize sUnits b = v
  rcases Int.lt_trichotomy u v with h | h | h
  · rw [if_pos h, if_neg (show ¬ v < u by omega), if_neg (show ¬ v = u by omega)]
    exact Or.inl ⟨rfl, rfl⟩
  · subst h
    rw [if_neg (show ¬ u < u by omega), if_pos rfl]
    exact Or.inr (Or.inr ⟨rfl, rfl⟩)
  · rw [if_neg (show ¬ u < v by omega), if_neg (show ¬ u = v by omega), if_pos h]
    exact Or.inr (Or.inl ⟨rfl, rfl⟩)
theorem cmp_turn (a b : Nat) : (cmpF a b = 2 ∧ cmpF b a = 2) ∨ (cmpF a b = -1 ∧ cmpF b a = 1) ∨ (cmpF a b = 1 ∧ cmpF b a = -1) ∨ (cmpF a b = 0 ∧ cmpF b a = 0) := by
  unfold cmpF
  rw [f64_double]
  by_cases na : infR < rungOf a
  · rw [order_nan a a (Or.inl na)]
    left
    refine ⟨by rfl, ?_⟩
    cases (double.order b b != some .eq) <;> rfl
  by_cases nb : infR < rungOf b
  · rw [order_nan b b (Or.inl nb), order_self a na]
    exact Or.inl ⟨rfl, rfl⟩
  rw [order_self a na, order_self b nb]
  rcases order_swap a b na nb with ⟨h1, h2⟩ | ⟨h1, h2⟩ | ⟨h1, h2⟩
  · rw [h1, h2]
    exact Or.inr (Or.inl ⟨rfl, rfl⟩)
  · rw [h1, h2]
    exact Or.inr (Or.inr (Or.inl ⟨rfl, rfl⟩))
  · rw [h1, h2]
    exact Or.inr (Or.inr (Or.inr ⟨rfl, rfl⟩))
theorem sub_self' (a : Nat) (ha : a < 18446744073709551616) : canonZ (double.sub a a) = 0 ∨ canonZ (double.sub a a) = 9221120237041090560 := by
  have hi := hiR
  have e1 : rungOf (flipN a) = rungOf a := by unfold flipN rungOf; split <;> omega
  have e2 : negOf (flipN a) = !negOf a := by
    unfold flipN negOf
    by_cases c : 9223372036854775808 ≤ a
    · rw [if_pos c, show (a - 9223372036854775808) / 9223372036854775808 = 0 by omega, show a / 9223372036854775808 = 1 by omega]
      rfl
    · rw [if_neg c, show (a + 9223372036854775808) / 9223372036854775808 = 1 by omega, show a / 9223372036854775808 = 0 by omega]
      rfl
  rw [sub_add a a ha]
  by_cases na : infR < rungOf a
  · rw [add_nan _ _ (Or.inl na)]
    exact Or.inr rfl
  by_cases ia : rungOf a = infR
  · rw [add_ii a _ ha ia (by omega), e2, if_neg (by cases negOf a <;> decide)]
    exact Or.inr rfl
  left
  obtain ⟨r, h1, h2⟩ := add_fin a (flipN a) (by omega) (by omega)
  have hu : unitsOf (flipN a) = unitsOf a := by unfold unitsOf; rw [e1]
  have hs : sUnits a + sUnits (flipN a) = 0 := by
    unfold sUnits
    rw [e2, hu]
    cases negOf a
    · rw [if_neg (by decide), if_pos (by decide)]; omega
    · rw [if_pos rfl, if_neg (by decide)]; omega
  rw [h1]
  show canonW r = 0
  rw [canon_RW _ _ _ (by omega) (by decide) r h2, hs, if_pos rfl, e2, show (negOf a && !negOf a) = false by cases negOf a <;> rfl]
  rw [show ((Int.natAbs 0 : Nat) : Int) = 0 from rfl, RWw_zero _ _ (by decide)]
  rfl
end Go.Proofs.Ytghjbadanhplnaa.PF
