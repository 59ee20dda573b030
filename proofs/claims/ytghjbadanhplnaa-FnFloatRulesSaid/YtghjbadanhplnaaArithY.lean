/- IEEE's quotient and floor of doubles, told by their units. Plain law; no condition beyond those of the theorems. -/
import Derived.Test.YtghjbadanhplnaaArithZ
namespace Go.Proofs.Ytghjbadanhplnaa.PF
open Go.RowKit Go.Proofs.YtghjbadanhplnaaW.PrintWords Go.Proofs.YtghjbadanhplnaaW.PrintLast Go.Proofs.YtghjbadanhplnaaW.PrintMore Go.Proofs.Ytghjbadanhplnaa.Limb Go.Proofs.Ytghjbadanhplnaa.Ord
open Ieee
set_option linter.unusedVariables false
set_option linter.unusedSimpArgs false

theorem log2_of {x k : Nat} (h1 : 2 ^ k ≤ x) (h2 : x < 2 ^ (k + 1)) : x.log2 = k := by
  have := Nat.two_pow_pos k
  exact (Nat.log2_eq_iff (by omega)).2 ⟨h1, h2⟩
/-- The place of the last digit kept of (2 (nQ + R)) 2^P / (n 2^z). -/
theorem eOf_quo (n Q R P z : Nat) (hn : 0 < n) (hR : R < n) (hQ : 0 < Q) (hPz : P = 0 ∨ z = 0) : eOf ((2 * (n * Q + R) : Nat) * 2 ^ P : Int) ((n : Int) * 2 ^ z) = Q.log2 + 1 + P - z - 52 := by
  unfold eOf
  have e1 : (((2 * (n * Q + R) : Nat) : Int) * 2 ^ P) = ((2 * (n * Q + R) * 2 ^ P : Nat) : Int) := by rw [Int.natCast_mul (2 * (n * Q + R)) (2 ^ P), nat_pow_int]
  have e2 : ((n : Int) * 2 ^ z) = ((n * 2 ^ z : Nat) : Int) := by rw [Int.natCast_mul, nat_pow_int]
  rw [e1, e2, ← Int.natCast_ediv, Int.toNat_natCast]
  have hl1 := Nat.log2_self_le (show Q ≠ 0 by omega)
  have hl2 : Q < 2 ^ (Q.log2 + 1) := Nat.lt_log2_self
  rcases hPz with rfl | rfl
  · rw [Nat.pow_zero, Nat.mul_one, ← Nat.div_div_eq_div_mul, log2_shr]
    have hd : 2 * (n * Q + R) / n = 2 * Q ∨ 2 * (n * Q + R) / n = 2 * Q + 1 := by
      have hs : 2 * (n * Q + R) = n * (2 * Q) + 2 * R := by rw [Nat.mul_add, Nat.mul_left_comm]
      rw [hs, Nat.mul_add_div hn]
      have h3 : 2 * R / n < 2 := (Nat.div_lt_iff_lt_mul hn).2 (by omega)
      generalize 2 * R / n = t at *
      omega
    have hl : (2 * (n * Q + R) / n).log2 = Q.log2 + 1 := by
      refine log2_of ?_ ?_
      · rw [Nat.pow_succ]; omega
      · rw [Nat.pow_succ, Nat.pow_succ]; rw [Nat.pow_succ] at hl2; omega
    rw [hl]
  · rw [Nat.pow_zero, Nat.mul_one]
    have hp := Nat.two_pow_pos P
    have hl : (2 * (n * Q + R) * 2 ^ P / n).log2 = Q.log2 + 1 + P := by
      refine log2_of ?_ ?_
      · rw [Nat.le_div_iff_mul_le hn]
        have h1 : 2 ^ (Q.log2 + 1 + P) * n ≤ 2 * Q * 2 ^ P * n := by
          refine Nat.mul_le_mul_right _ ?_
          rw [Nat.pow_add]
          exact Nat.mul_le_mul_right _ (by rw [Nat.pow_succ]; omega)
        have h2 : 2 * Q * 2 ^ P * n ≤ 2 * (n * Q + R) * 2 ^ P := by
          rw [Nat.mul_right_comm]
          refine Nat.mul_le_mul_right _ ?_
          rw [Nat.mul_assoc, Nat.mul_comm Q n]
          omega
        omega
      · rw [Nat.div_lt_iff_lt_mul hn]
        have h1 : 2 * (n * Q + R) * 2 ^ P < 2 * (n * (Q + 1)) * 2 ^ P := by
          refine Nat.mul_lt_mul_of_pos_right ?_ hp
          rw [Nat.mul_add n Q 1]
          omega
        have h2 : 2 * (n * (Q + 1)) * 2 ^ P ≤ 2 ^ (Q.log2 + 1 + P + 1) * n := by
          rw [show 2 * (n * (Q + 1)) * 2 ^ P = 2 * (Q + 1) * 2 ^ P * n by
            simp only [Nat.mul_assoc, Nat.mul_left_comm, Nat.mul_comm]]
          refine Nat.mul_le_mul_right _ ?_
          rw [show Q.log2 + 1 + P + 1 = (Q.log2 + 2) + P by omega, Nat.pow_add]
          refine Nat.mul_le_mul_right _ ?_
          rw [Nat.pow_succ]
          omega
        omega
    rw [hl]
    omega
theorem RW_sticky (neg : Bool) (n Q R st P z : Nat) (hn : 0 < n) (hR : R < n) (hQ : 2 ^ 53 ≤ Q) (hst : (R = 0 ∧ st = 0) ∨ (R ≠ 0 ∧ st = 1)) :
    RWw neg (((2 * Q + st : Nat) : Int) * 2 ^ P) (2 ^ z) = RWw neg (((2 * (n * Q + R) : Nat) : Int) * 2 ^ P) ((n : Int) * 2 ^ z) := by
  have r1 := RWw_shift neg (((2 * Q + st : Nat) : Int)) 1 P z (P - z) (z - P) (by omega)
  rw [Int.one_mul, Int.one_mul] at r1
  rw [r1, RWw_shift neg (((2 * (n * Q + R) : Nat) : Int)) (n : Int) P z (P - z) (z - P) (by omega)]
  generalize hP2 : P - z = P2
  generalize hz2 : z - P = z2
  have hPz : P2 = 0 ∨ z2 = 0 := by omega
  have hl : 53 ≤ Q.log2 := (Nat.le_log2 (by have := Nat.two_pow_pos 53; omega)).2 hQ
  have h1 := eOf_quo n Q R P2 z2 hn hR (by have := Nat.two_pow_pos 53; omega) hPz
  have h2 := eOf_pq (2 * Q + st) P2 z2 (by have := Nat.two_pow_pos 53; omega) hPz
  have h3 : (2 * Q + st).log2 = Q.log2 + 1 := by
    have hl1 := Nat.log2_self_le (show Q ≠ 0 by have := Nat.two_pow_pos 53; omega)
    have hl2 : Q < 2 ^ (Q.log2 + 1) := Nat.lt_log2_self
    refine log2_of ?_ ?_
    · rw [Nat.pow_succ]; omega
    · rw [Nat.pow_succ, Nat.pow_succ]; rw [Nat.pow_succ] at hl2; omega
  rw [h3] at h2
  unfold RWw
  rw [h1, h2]
  generalize hE : Q.log2 + 1 + P2 - z2 - 52 = E
  obtain ⟨g, hg⟩ : ∃ g, z2 + E = P2 + (g + 2) := ⟨z2 + E - P2 - 2, by omega⟩
  have k1 : (2 : Int) ^ z2 * 2 ^ E = 4 * 2 ^ g * 2 ^ P2 := by
    rw [← Int.pow_add, hg, Int.pow_add 2 P2, Int.pow_add 2 g 2, Int.mul_comm, Int.mul_comm (2 ^ g) (2 ^ 2)]
    rfl
  have k2 : (n : Int) * 2 ^ z2 * 2 ^ E = (n : Int) * (4 * 2 ^ g) * 2 ^ P2 := by
    rw [Int.mul_assoc, k1, ← Int.mul_assoc]
  rw [k1, k2, halfUp_scale _ _ _ (p2_pos _), halfUp_scale _ _ _ (p2_pos _)]
  have := sticky (n : Int) (Q : Int) (R : Int) (st : Int) (2 ^ g) (by omega) (p2_pos g) (by omega) (by omega) (by omega) (by omega)
  rw [show ((2 * Q + st : Nat) : Int) = 2 * (Q : Int) + st by omega, show ((2 * (n * Q + R) : Nat) : Int) = 2 * ((n : Int) * Q + R) by rw [Int.natCast_mul, Int.natCast_add, Int.natCast_mul]; rfl, this]
theorem div_fin (a b : Nat) (ha : rungOf a < infR) (hb : rungOf b < infR) (h0 : unitsOf b ≠ 0) : ∃ r : Nat, double.div a b = some r ∧ (r : Int) = RWw (negOf a ^^ negOf b) ((unitsOf a : Int) * 2 ^ 1074) (unitsOf b : Int) := by
  obtain ⟨m, p, e1, u1⟩ := read_fin a ha
  obtain ⟨n, q, e2, u2⟩ := read_fin b hb
  have hn : n ≠ 0 := fun h => h0 (by rw [u2, h, Nat.zero_mul])
  generalize hmo : 54 + n.log2 - m.log2 = more
  have hr : double.div a b = some (double.nearest (negOf a ^^ negOf b) (2 * (m * 2 ^ more / n) + (m * 2 ^ more % n != 0).toNat) ((-1074 + (p : Int)) - (-1074 + (q : Int)) - more - 1)) := by
    unfold Format.div
    rw [e1, e2]
    unfold Datum.quotient
    dsimp only
    rw [if_neg hn, show double.fractionBits + 2 + n.log2 - m.log2 = more from hmo, Nat.shiftLeft_eq]
    rfl
  refine ⟨_, hr, ?_⟩
  rw [nearest_RW _ _ _ (p + 1074) (q + more + 1) (by omega), u1, u2]
  by_cases hm : m = 0
  · subst hm
    rw [Nat.zero_mul, Nat.zero_div, Nat.zero_mod, Nat.zero_mul, Int.natCast_zero, Int.zero_mul]
    rw [show ((2 * 0 + ((0 : Nat) != 0).toNat : Nat) : Int) = 0 from rfl, Int.zero_mul, RWw_zero _ _ (p2_pos _), RWw_zero]
    rw [u2] at h0
    omega
  have hn0 : 0 < n := by omega
  have hdm := Nat.div_add_mod (m * 2 ^ more) n
  have hR := Nat.mod_lt (m * 2 ^ more) hn0
  have hQ : 2 ^ 53 ≤ m * 2 ^ more / n := by
    rw [Nat.le_div_iff_mul_le hn0]
    have h1 := Nat.log2_self_le hm
    have h2 : n < 2 ^ (n.log2 + 1) := Nat.lt_log2_self
    have h3 : 2 ^ (54 + n.log2) ≤ m * 2 ^ more := by
      have h4 : 2 ^ (54 + n.log2) ≤ 2 ^ (m.log2 + more) := Nat.pow_le_pow_right (by decide) (by omega)
      rw [Nat.pow_add 2 m.log2] at h4
      exact Nat.le_trans h4 (Nat.mul_le_mul_right _ h1)
    have h5 : 2 ^ 53 * n ≤ 2 ^ (54 + n.log2) := by
      rw [show 54 + n.log2 = 53 + (n.log2 + 1) by omega, Nat.pow_add]
      exact Nat.mul_le_mul_left _ (by omega)
    omega
  generalize m * 2 ^ more / n = Q at *
  generalize hR2 : m * 2 ^ more % n = R at *
  have hst : (R = 0 ∧ (R != 0).toNat = 0) ∨ (R ≠ 0 ∧ (R != 0).toNat = 1) := by
    by_cases h : R = 0
    · exact Or.inl ⟨h, by subst h; rfl⟩
    · exact Or.inr ⟨h, by simp [h]⟩
  rw [RW_sticky _ n Q R _ _ _ hn0 hR hQ hst, hdm]
  have c1 : ((2 * (m * 2 ^ more) : Nat) : Int) * 2 ^ (p + 1074) = ((m * 2 ^ p : Nat) : Int) * 2 ^ 1074 * 2 ^ (more + 1) := by
    rw [Int.natCast_mul, Int.natCast_mul, Int.natCast_mul, nat_pow_int, nat_pow_int, Int.pow_add 2 p 1074, Int.pow_add 2 more 1, Int.pow_one]
    generalize (2 : Int) ^ 1074 = X
    generalize (2 : Int) ^ p = Y
    generalize (2 : Int) ^ more = Z
    show 2 * ((m : Int) * Z) * (Y * X) = (m : Int) * Y * X * (Z * 2)
    simp only [Int.mul_assoc, Int.mul_left_comm, Int.mul_comm]
  have c2 : (n : Int) * 2 ^ (q + more + 1) = ((n * 2 ^ q : Nat) : Int) * 2 ^ (more + 1) := by
    rw [Int.natCast_mul, nat_pow_int, Int.mul_assoc, ← Int.pow_add, Nat.add_assoc]
  rw [c1, c2, RWw_scale _ _ _ _ (p2_pos _)]
end Go.Proofs.Ytghjbadanhplnaa.PF
