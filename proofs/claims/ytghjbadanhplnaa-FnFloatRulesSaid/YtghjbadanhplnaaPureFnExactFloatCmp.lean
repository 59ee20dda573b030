/- At every two words the program's FloatCmp answers as the reference's. Plain law; no condition. -/
import Derived.Test.YtghjbadanhplnaaFloZ
import Derived.Test.YtghjbadanhplnaaGFlo
namespace Go.Proofs.Ytghjbadanhplnaa.Pure
open Go.RowKit Go.Proofs.Ytghjbadanhplnaa.PF Go.Proofs.Ytghjbadanhplnaa.Ord Go.Proofs.YtghjbadanhplnaaW.PrintWords Go.Proofs.YtghjbadanhplnaaW.PrintLast
set_option linter.unusedVariables false
set_option linter.unusedSimpArgs false

theorem nan_some (x : Int) (h0 : 0 ≤ x) (h1 : x < 18446744073709551616) : spec_l2IsNan.f x = some (decide (infR < rungOf x.toNat)) := by
  unfold spec_l2IsNan.f
  rw [abs_some x h0 h1]
  have hi : infR = 9218868437227405312 := rfl
  congr 1
  exact decide_eq_decide.2 (by omega)
theorem inf_some (x : Int) (h0 : 0 ≤ x) (h1 : x < 18446744073709551616) : spec_l2IsInf.f x = some (decide (rungOf x.toNat = infR)) := by
  unfold spec_l2IsInf.f
  rw [abs_some x h0 h1]
  have hi : infR = 9218868437227405312 := rfl
  by_cases e : rungOf x.toNat = infR
  · rw [decide_eq_true e, e, hi]
    rfl
  · rw [decide_eq_false e]
    have : ¬ ((rungOf x.toNat : Nat) : Int) = 9218868437227405312 := by omega
    simp [this]
theorem spec_cmp (x y : Int) (hx0 : 0 ≤ x) (hx1 : x < 18446744073709551616) (hy0 : 0 ≤ y) (hy1 : y < 18446744073709551616) (k : Nat) (hk : 1200000 ≤ k) : spec_FloatCmp.f k x y = some (cmpF x.toNat y.toNat) := by
  obtain ⟨k, rfl⟩ : ∃ m, k = m + 3 := ⟨k - 3, by omega⟩
  have hi : infR = 9218868437227405312 := rfl
  have hxr : ((rungOf x.toNat : Nat) : Int) = x % 9223372036854775808 := by unfold rungOf; omega
  have hyr : ((rungOf y.toNat : Nat) : Int) = y % 9223372036854775808 := by unfold rungOf; omega
  have hxn : negOf x.toNat = decide (9223372036854775808 ≤ x) := by
    unfold negOf
    by_cases c : 9223372036854775808 ≤ x
    · rw [decide_eq_true c, show x.toNat / 9223372036854775808 = 1 by omega]
      rfl
    · rw [decide_eq_false c, show x.toNat / 9223372036854775808 = 0 by omega]
      rfl
  have hyn : negOf y.toNat = decide (9223372036854775808 ≤ y) := by
    unfold negOf
    by_cases c : 9223372036854775808 ≤ y
    · rw [decide_eq_true c, show y.toNat / 9223372036854775808 = 1 by omega]
      rfl
    · rw [decide_eq_false c, show y.toNat / 9223372036854775808 = 0 by omega]
      rfl
  unfold spec_FloatCmp.f cmpF
  rw [nan_some x hx0 hx1, Option.bind_some, f64_double]
  by_cases nx : infR < rungOf x.toNat
  · rw [if_pos (decide_eq_true nx), spec_FloatCmp.j0, if_pos rfl, order_nan _ _ (Or.inl nx), if_pos (by decide)]
  rw [if_neg (by simpa using nx), nan_some y hy0 hy1, Option.bind_some, order_self _ nx, if_neg (by decide)]
  by_cases ny : infR < rungOf y.toNat
  · rw [decide_eq_true ny, spec_FloatCmp.j0, if_pos rfl, order_nan _ _ (Or.inl ny), if_pos (by decide)]
  rw [decide_eq_false ny, spec_FloatCmp.j0, if_neg (by decide), order_self _ ny, if_neg (by decide), inf_some x hx0 hx1, Option.bind_some]
  by_cases ix : rungOf x.toNat = infR
  · rw [if_pos (decide_eq_true ix), spec_FloatCmp.j1, if_pos rfl]
    by_cases iy : rungOf y.toNat = infR
    · rw [order_ii _ _ ix iy, cmp_nat, hxn, hyn]
      by_cases cx : 9223372036854775808 ≤ x
      · by_cases cy : 9223372036854775808 ≤ y
        · rw [decide_eq_true cx, decide_eq_true cy, if_pos (by omega)]
          rfl
        · rw [decide_eq_true cx, decide_eq_false cy, if_neg (by omega), if_neg (by omega), show (y == 18442240474082181120) = false from by simp; omega]
          rfl
      · by_cases cy : 9223372036854775808 ≤ y
        · rw [decide_eq_false cx, decide_eq_true cy, if_neg (by omega), if_pos (by omega)]
          rfl
        · rw [decide_eq_false cx, decide_eq_false cy, if_pos (by omega)]
          rfl
    · rw [order_if _ _ ix (by omega), hxn, if_neg (show ¬ x = y from fun h => iy (h ▸ ix))]
      by_cases cx : 9223372036854775808 ≤ x
      · rw [decide_eq_true cx, if_neg (by omega), show (y == 18442240474082181120) = false from by simp; omega]
        rfl
      · rw [decide_eq_false cx, if_pos (by omega)]
        rfl
  · rw [if_neg (by simpa using ix), inf_some y hy0 hy1, Option.bind_some]
    by_cases iy : rungOf y.toNat = infR
    · rw [decide_eq_true iy, spec_FloatCmp.j1, if_pos rfl, order_fi _ _ (by omega) iy, hyn, if_neg (show ¬ x = y from fun h => ix (h ▸ iy)), if_neg (by omega)]
      by_cases cy : 9223372036854775808 ≤ y
      · rw [decide_eq_true cy, show (y == 18442240474082181120) = true from by simp; omega]
        rfl
      · rw [decide_eq_false cy, show (y == 18442240474082181120) = false from by simp; omega]
        rfl
    · rw [decide_eq_false iy, spec_FloatCmp.j1, if_neg (by decide), order_fin _ _ (by omega) (by omega), cmp_int]
      obtain ⟨b, t, e1, e2, e3, e4⟩ := whole_some x hx0 hx1 (by omega) (k + 1) (by omega)
      obtain ⟨c, s, f1, f2, f3, f4⟩ := whole_some y hy0 hy1 (by omega) (k + 1) (by omega)
      rw [e1, Option.bind_some, f1, Option.bind_some]
      dsimp only
      rw [l2order_some b t _ c s _ e2 f2 (by omega) (by omega) (k + 1) (by omega), Option.bind_some, e4, f4]
      generalize sUnits x.toNat = u
      generalize sUnits y.toNat = v
      rcases Int.lt_trichotomy u v with h | h | h
      · have o : (if u < v then Ordering.lt else if u = v then Ordering.eq else Ordering.gt) = Ordering.lt := if_pos h
        rw [o, if_neg (show ¬ u = v by omega), if_pos h]
        rfl
      · have o : (if u < v then Ordering.lt else if u = v then Ordering.eq else Ordering.gt) = Ordering.eq := by rw [if_neg (by omega), if_pos h]
        rw [o, if_pos h]
        rfl
      · have o : (if u < v then Ordering.lt else if u = v then Ordering.eq else Ordering.gt) = Ordering.gt := by rw [if_neg (by omega), if_neg (by omega)]
        rw [o, if_neg (show ¬ u = v by omega), if_neg (show ¬ u < v by omega)]
        rfl

theorem FnExactFloatCmp : laws_FnExactFloatCmp.Pure := by
  intro a0 a1 h0 h1
  have m1 : IntKind.u64.min = 0 := rfl
  have m2 : IntKind.u64.max = 18446744073709551615 := rfl
  simp only [Lit.wf, Bool.and_eq_true, decide_eq_true_eq] at h0 h1
  refine ⟨2000000, ?_⟩
  unfold laws_FnExactFloatCmp.f impl_FloatCmp.f
  rw [spec_cmp a0 a1 (by omega) (by omega) (by omega) (by omega) 2000000 (by omega), Option.bind_some, Option.bind_some, if_pos rfl]

end Go.Proofs.Ytghjbadanhplnaa.Pure
