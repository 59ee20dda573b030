/- IEEE's nearest word, told by the nearest word of a fraction of units. Plain law; no condition beyond those of the theorems. -/
import Derived.Test.YtghjbadanhplnaaGRnd
namespace Go.Proofs.Ytghjbadanhplnaa.PF
open Go.RowKit Go.Proofs.YtghjbadanhplnaaW.PrintWords Go.Proofs.YtghjbadanhplnaaW.PrintLast Go.Proofs.YtghjbadanhplnaaW.PrintMore Go.Proofs.Ytghjbadanhplnaa.Limb Go.Proofs.Ytghjbadanhplnaa.Ord
open Ieee
set_option linter.unusedVariables false
set_option linter.unusedSimpArgs false

theorem halfUp_nat (n d : Nat) : halfUp (n : Int) (d : Int) = ((n / d + (decide (d < 2 * (n % d)) || (d == 2 * (n % d) && n / d % 2 == 1)).toNat : Nat) : Int) := by
  unfold halfUp
  have h1 : ((n : Int) / (d : Int)) = ((n / d : Nat) : Int) := (Int.natCast_ediv n d).symm
  have h2 : ((n : Int) % (d : Int)) = ((n % d : Nat) : Int) := (Int.natCast_emod n d).symm
  rw [h1, h2]
  generalize n / d = q
  generalize n % d = r
  by_cases c : d < 2 * r
  · rw [if_pos (by omega)]
    simp [c]
  · by_cases e : d = 2 * r ∧ q % 2 = 1
    · rw [if_pos (by omega)]
      simp [e.1, e.2]
    · rw [if_neg (by omega)]
      have : (decide (d < 2 * r) || (d == 2 * r && q % 2 == 1)) = false := by
        simp only [Bool.or_eq_false_iff, decide_eq_false_iff_not, Bool.and_eq_false_iff, beq_eq_false_iff_ne]
        refine ⟨c, ?_⟩
        by_cases e1 : d = 2 * r
        · exact Or.inr (fun h => e ⟨e1, h⟩)
        · exact Or.inl e1
      rw [this]
      simp
theorem cut_even (neg : Bool) (n d : Nat) : ((Toward.even.cut neg n d : Nat) : Int) = halfUp (n : Int) ((2 ^ d : Nat) : Int) := by
  rw [halfUp_nat]
  unfold Toward.cut
  dsimp only
  rw [Nat.shiftLeft_eq, Nat.one_mul]
  rcases Nat.lt_or_ge (n.log2 + 2) d with h | h
  · rw [Nat.min_eq_right (by omega)]
    have h1 : n < 2 ^ (n.log2 + 1) := Nat.lt_log2_self
    have h2 : (2 : Nat) ^ (n.log2 + 2) ≤ 2 ^ d := Nat.pow_le_pow_right (by decide) (by omega)
    have h3 : (2 : Nat) ^ (n.log2 + 2) = 2 * 2 ^ (n.log2 + 1) := by rw [Nat.pow_succ]; omega
    rw [Nat.div_eq_of_lt (show n < 2 ^ (n.log2 + 2) by omega), Nat.mod_eq_of_lt (show n < 2 ^ (n.log2 + 2) by omega), Nat.div_eq_of_lt (show n < 2 ^ d by omega), Nat.mod_eq_of_lt (show n < 2 ^ d by omega)]
    have c1 : ¬ (2 ^ (n.log2 + 2) < 2 * n) := by omega
    have c2 : ¬ (2 ^ d < 2 * n) := by omega
    simp [c1, c2]
  · rw [Nat.min_eq_left h]
theorem eOf_scale (M D c : Int) (hc : 0 < c) : eOf (M * c) (D * c) = eOf M D := by
  unfold eOf
  rw [Int.mul_ediv_mul_of_pos_left _ _ hc]
theorem RWw_scale (neg : Bool) (M D c : Int) (hc : 0 < c) : RWw neg (M * c) (D * c) = RWw neg M D := by
  unfold RWw
  rw [eOf_scale M D c hc, show D * c * 2 ^ eOf M D = D * 2 ^ eOf M D * c by rw [Int.mul_right_comm], halfUp_scale _ _ _ hc]
theorem RWw_shift (neg : Bool) (M D : Int) (p q p' q' : Nat) (h : p + q' = p' + q) : RWw neg (M * 2 ^ p) (D * 2 ^ q) = RWw neg (M * 2 ^ p') (D * 2 ^ q') := by
  rw [← RWw_scale neg (M * 2 ^ p) (D * 2 ^ q) (2 ^ q') (p2_pos _), ← RWw_scale neg (M * 2 ^ p') (D * 2 ^ q') (2 ^ q) (p2_pos _)]
  rw [Int.mul_assoc, Int.mul_assoc, Int.mul_assoc, Int.mul_assoc, ← Int.pow_add, ← Int.pow_add, ← Int.pow_add, ← Int.pow_add, h, Nat.add_comm q q']
theorem log2_shl (m p : Nat) (h : m ≠ 0) : (m * 2 ^ p).log2 = m.log2 + p := by
  have h1 := Nat.log2_self_le h
  have h2 : m < 2 ^ (m.log2 + 1) := Nat.lt_log2_self
  have hne : m * 2 ^ p ≠ 0 := Nat.mul_ne_zero h (by have := Nat.two_pow_pos p; omega)
  refine (Nat.log2_eq_iff hne).2 ⟨?_, ?_⟩
  · rw [Nat.pow_add]
    exact Nat.mul_le_mul_right _ h1
  · rw [show m.log2 + p + 1 = (m.log2 + 1) + p by omega, Nat.pow_add]
    exact Nat.mul_lt_mul_of_pos_right h2 (Nat.two_pow_pos p)
theorem log2_shr (m q : Nat) : (m / 2 ^ q).log2 = m.log2 - q := by
  rcases Nat.lt_or_ge m (2 ^ q) with h | h
  · rw [Nat.div_eq_of_lt h]
    by_cases hm : m = 0
    · subst hm; simp
    · have h1 := Nat.log2_self_le hm
      have : m.log2 < q := (Nat.pow_lt_pow_iff_right (by decide : 1 < 2)).1 (Nat.lt_of_le_of_lt h1 h)
      simp
      omega
  · have hp := Nat.two_pow_pos q
    have hm : m ≠ 0 := by omega
    have h1 := Nat.log2_self_le hm
    have h2 : m < 2 ^ (m.log2 + 1) := Nat.lt_log2_self
    have hq : q ≤ m.log2 := by
      have := (Nat.pow_lt_pow_iff_right (by decide : 1 < 2)).1 (Nat.lt_of_le_of_lt h h2)
      omega
    have hd : 0 < m / 2 ^ q := Nat.div_pos h hp
    refine (Nat.log2_eq_iff (by omega)).2 ⟨?_, ?_⟩
    · rw [Nat.le_div_iff_mul_le hp, ← Nat.pow_add, Nat.sub_add_cancel hq]
      exact h1
    · rw [Nat.div_lt_iff_lt_mul hp, ← Nat.pow_add, show m.log2 - q + 1 + q = m.log2 + 1 by omega]
      exact h2
/-- The place of the last digit kept, of mag * 2 ^ p / 2 ^ q units. -/
theorem eOf_pq (m p q : Nat) (hm : m ≠ 0) (hpq : p = 0 ∨ q = 0) : eOf ((m : Int) * 2 ^ p) (2 ^ q) = m.log2 + p - q - 52 := by
  unfold eOf
  have e1 : ((m : Int) * 2 ^ p) = ((m * 2 ^ p : Nat) : Int) := by rw [Int.natCast_mul, Int.natCast_pow]; rfl
  have e2 : ((2 : Int) ^ q) = ((2 ^ q : Nat) : Int) := by rw [Int.natCast_pow]; rfl
  rw [e1, e2, ← Int.natCast_ediv, Int.toNat_natCast, log2_shr, log2_shl m p hm]
theorem word_of (neg : Bool) (r : Nat) : ((double.word neg r : Nat) : Int) = wordOf neg (r : Int) := by
  unfold Format.word wordOf
  rw [d_sign]
  cases neg
  · simp
  · simp only [if_true]
    omega
theorem RWw_zero (neg : Bool) (D : Int) (hD : 0 < D) : RWw neg 0 D = wordOf neg 0 := by
  unfold RWw
  have e1 : eOf 0 D = 0 := by unfold eOf; simp
  have e2 : halfUp 0 (D * 2 ^ 0) = 0 := by
    unfold halfUp
    rw [if_neg (by simp; omega)]
    simp
  rw [e1, e2, Int.natCast_zero, Int.zero_mul, Int.zero_add, Int.min_eq_left (by decide)]
theorem min_cast (E K : Nat) : ((min (((E : Int) - 1074 - -1074).toNat * 4503599627370496 + K) 9218868437227405312 : Nat) : Int) = min ((E : Int) * 4503599627370496 + (K : Int)) 9218868437227405312 := by
  rw [show ((E : Int) - 1074 - -1074).toNat = E by omega]
  omega
theorem nearest_RW (neg : Bool) (m : Nat) (place : Int) (p q : Nat) (h : place + 1074 = (p : Int) - q) : ((double.nearest neg m place : Nat) : Int) = RWw neg ((m : Int) * 2 ^ p) (2 ^ q) := by
  by_cases hm : m = 0
  · subst hm
    unfold Format.nearest
    rw [if_pos rfl, word_of]
    rw [Int.natCast_zero, Int.zero_mul, RWw_zero _ _ (p2_pos q)]
  · -- only one of p, q counts
    have hred : RWw neg ((m : Int) * 2 ^ p) (2 ^ q) = RWw neg ((m : Int) * 2 ^ (p - q)) (2 ^ (q - p)) := by
      have := RWw_shift neg (m : Int) 1 p q (p - q) (q - p) (by omega)
      rw [Int.one_mul, Int.one_mul] at this
      exact this
    rw [hred]
    generalize hP : p - q = P
    generalize hQ : q - p = Q
    have hPQ : P = 0 ∨ Q = 0 := by omega
    have hpl : place + 1074 = (P : Int) - Q := by omega
    unfold Format.nearest RWw
    rw [if_neg hm, word_of, d_bin, d_inf, d_least]
    (try dsimp only)
    rw [show (double.fractionBits : Int) = 52 from rfl]
    rw [eOf_pq m P Q hm hPQ]
    generalize hE : m.log2 + P - Q - 52 = E
    have hlast : max (place + (m.log2 : Int) - 52) (-1074) = (E : Int) - 1074 := by omega
    rw [hlast]
    have hk : ((Toward.even.cut neg (m <<< (place - ((E : Int) - 1074)).toNat) ((E : Int) - 1074 - place).toNat : Nat) : Int) = halfUp ((m : Int) * 2 ^ P) (2 ^ Q * 2 ^ E) := by
      rw [cut_even, Nat.shiftLeft_eq]
      generalize hs : (place - ((E : Int) - 1074)).toNat = s
      generalize hd : ((E : Int) - 1074 - place).toNat = d
      have hsd : P + d = s + (Q + E) := by omega
      rw [← Int.pow_add]
      generalize Q + E = Z at hsd
      have c1 : ((m * 2 ^ s : Nat) : Int) = (m : Int) * 2 ^ s := by rw [Int.natCast_mul, Int.natCast_pow]; rfl
      have c2 : ((2 ^ d : Nat) : Int) = 2 ^ d := by rw [Int.natCast_pow]; rfl
      rw [c1, c2, ← halfUp_scale ((m : Int) * 2 ^ s) (2 ^ d) (2 ^ Z) (p2_pos Z), ← halfUp_scale ((m : Int) * 2 ^ P) (2 ^ Z) (2 ^ d) (p2_pos d)]
      rw [Int.mul_assoc, Int.mul_assoc, ← Int.pow_add, ← Int.pow_add, ← Int.pow_add, ← Int.pow_add, hsd, Nat.add_comm d Z]
    rw [← hk]
    congr 1
    generalize Toward.even.cut neg (m <<< (place - ((E : Int) - 1074)).toNat) ((E : Int) - 1074 - place).toNat = K
    exact min_cast E K
theorem halfUp_nonneg {n d : Int} (h : 0 ≤ n) (hd : 0 < d) : 0 ≤ halfUp n d := by
  have := Int.ediv_nonneg h (Int.le_of_lt hd)
  unfold halfUp
  split <;> omega
theorem own_arith (a b : Nat) (ha : a < 4503599627370496) (hb : 1 ≤ b) (h : 4503599627370496 * b + a < 9218868437227405312) : min (((b - 1 : Nat) : Int) * 4503599627370496 + ((4503599627370496 + a : Nat) : Int)) 9218868437227405312 = ((4503599627370496 * b + a : Nat) : Int) := by
  omega
/-- A rung is rounded to itself. -/
theorem RWw_own (x : Nat) (h : rungOf x < infR) (neg : Bool) : RWw neg (unitsOf x : Int) 1 = wordOf neg (rungOf x : Int) := by
  unfold unitsOf
  generalize rungOf x = r at *
  unfold infR at h
  by_cases c : r < 4503599627370496
  · rw [if_pos c]
    have he : eOf (r : Int) 1 = 0 := by
      have h2 : r < 2 ^ 52 := c
      have : r.log2 ≤ 52 := by
        by_cases h0 : r = 0
        · subst h0; decide
        · have h1 := Nat.log2_self_le h0
          have := (Nat.pow_lt_pow_iff_right (by decide : 1 < 2)).1 (Nat.lt_of_le_of_lt h1 h2)
          omega
      unfold eOf
      rw [Int.ediv_one, Int.toNat_natCast]
      omega
    unfold RWw
    rw [he]
    have : halfUp (r : Int) (1 * 2 ^ 0) = r := by
      unfold halfUp
      rw [if_neg (by simp)]
      simp
    rw [this]
    congr 1
    omega
  · rw [if_neg c]
    generalize ha : r % 4503599627370496 = a
    generalize hb : r / 4503599627370496 = b
    have hr : r = 4503599627370496 * b + a := by omega
    have ha2 : a < 4503599627370496 := by omega
    have hm : 4503599627370496 + a ≠ 0 := by omega
    have hl : (4503599627370496 + a).log2 = 52 := (Nat.log2_eq_iff hm).2 ⟨by omega, by omega⟩
    have he := eOf_pq (4503599627370496 + a) (b - 1) 0 hm (Or.inr rfl)
    have e1 : (((4503599627370496 + a) * 2 ^ (b - 1) : Nat) : Int) = ((4503599627370496 + a : Nat) : Int) * 2 ^ (b - 1) := by rw [Int.natCast_mul, Int.natCast_pow]; rfl
    rw [e1]
    rw [hl, show (2 : Int) ^ 0 = 1 from rfl] at he
    unfold RWw
    rw [he, show 52 + (b - 1) - 0 - 52 = b - 1 by omega]
    have : halfUp (((4503599627370496 + a : Nat) : Int) * 2 ^ (b - 1)) (1 * 2 ^ (b - 1)) = ((4503599627370496 + a : Nat) : Int) := by
      rw [halfUp_scale _ _ _ (p2_pos _)]
      unfold halfUp
      rw [if_neg (by simp)]
      simp
    rw [this, own_arith a b ha2 (by omega) (by omega), ← hr]
end Go.Proofs.Ytghjbadanhplnaa.PF
