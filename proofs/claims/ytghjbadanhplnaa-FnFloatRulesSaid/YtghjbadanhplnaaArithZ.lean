/- IEEE's sum, product, quotient and floor of doubles, told by their units. Plain law; no condition beyond those of the theorems. -/
import Derived.Test.YtghjbadanhplnaaNearZ
import Derived.Test.YtghjbadanhplnaaGFop
namespace Go.Proofs.Ytghjbadanhplnaa.PF
open Go.RowKit Go.Proofs.YtghjbadanhplnaaW.PrintWords Go.Proofs.YtghjbadanhplnaaW.PrintLast Go.Proofs.YtghjbadanhplnaaW.PrintMore Go.Proofs.Ytghjbadanhplnaa.Limb Go.Proofs.Ytghjbadanhplnaa.Ord
open Ieee
set_option linter.unusedVariables false
set_option linter.unusedSimpArgs false

theorem nat_pow_int (n : Nat) : ((2 ^ n : Nat) : Int) = 2 ^ n := by rw [Int.natCast_pow]; rfl
theorem sgn_scale (T : Int) (c : Nat) (hc : 0 < c) : (T * (c : Int) = 0 ↔ T = 0) ∧ (T * (c : Int) < 0 ↔ T < 0) := by
  have hc2 : (0 : Int) < c := by omega
  refine ⟨⟨fun h => ?_, fun h => by rw [h, Int.zero_mul]⟩, ⟨fun h => ?_, fun h => Int.mul_neg_of_neg_of_pos h hc2⟩⟩
  · rcases Int.mul_eq_zero.1 h with h | h
    · exact h
    · omega
  · by_cases h1 : T < 0
    · exact h1
    · have := Int.mul_nonneg (show 0 ≤ T by omega) (Int.le_of_lt hc2)
      omega
theorem add_fin (a b : Nat) (ha : rungOf a < infR) (hb : rungOf b < infR) : ∃ r : Nat, double.add a b = some r ∧ (r : Int) = RWw (if sUnits a + sUnits b = 0 then negOf a && negOf b else decide (sUnits a + sUnits b < 0)) ((sUnits a + sUnits b).natAbs : Int) 1 := by
  obtain ⟨m, p, e1, u1⟩ := read_fin a ha
  obtain ⟨n, q, e2, u2⟩ := read_fin b hb
  generalize hB : min (-1074 + (p : Int)) (-1074 + (q : Int)) = base
  generalize hT : signed (negOf a) m (-1074 + (p : Int) - base).toNat + signed (negOf b) n (-1074 + (q : Int) - base).toNat = T
  have hr : double.add a b = some (double.nearest (if T = 0 then negOf a && negOf b else decide (T < 0)) T.natAbs base) := by
    unfold Format.add
    rw [e1, e2]
    unfold Datum.sum
    dsimp only
    rw [hB, hT]
    rfl
  refine ⟨_, hr, ?_⟩
  have hS : sUnits a + sUnits b = T * ((2 ^ min p q : Nat) : Int) := by
    rw [← hT, Int.add_mul, signed_mul, signed_mul]
    unfold sUnits
    rw [u1, u2, show (-1074 + (p : Int) - base).toNat + min p q = p by omega, show (-1074 + (q : Int) - base).toNat + min p q = q by omega]
  have hc := Nat.two_pow_pos (min p q)
  obtain ⟨z1, z2⟩ := sgn_scale T _ hc
  rw [hS, nearest_RW _ _ base (min p q) 0 (by omega)]
  simp only [z1, z2]
  congr 1
  rw [Int.natAbs_mul, Int.natCast_mul, Int.natAbs_natCast, nat_pow_int]
theorem mul_fin (a b : Nat) (ha : rungOf a < infR) (hb : rungOf b < infR) : ∃ r : Nat, double.mul a b = some r ∧ (r : Int) = RWw (negOf a ^^ negOf b) ((unitsOf a : Int) * (unitsOf b : Int)) (2 ^ 1074) := by
  obtain ⟨m, p, e1, u1⟩ := read_fin a ha
  obtain ⟨n, q, e2, u2⟩ := read_fin b hb
  have hr : double.mul a b = some (double.nearest (negOf a ^^ negOf b) (m * n) ((-1074 + (p : Int)) + (-1074 + (q : Int)))) := by
    unfold Format.mul
    rw [e1, e2]
    rfl
  refine ⟨_, hr, ?_⟩
  rw [nearest_RW _ _ _ (p + q) 1074 (by omega), u1, u2]
  congr 1
  rw [Int.natCast_mul, Int.natCast_mul, Int.natCast_mul, nat_pow_int, nat_pow_int, Int.pow_add]
  simp only [Int.mul_assoc, Int.mul_left_comm]
theorem dm (X d u r : Int) (hd : 0 < d) (h : X = d * u + r) (h0 : 0 ≤ r) (h1 : r < d) : X / d = u ∧ X % d = r := (Int.ediv_emod_unique hd).2 ⟨by rw [h, Int.add_comm], h0, h1⟩
/-- A bit that tells of what is left over does not change the rounding. -/
theorem sticky (n Q R st H : Int) (hn : 0 < n) (hH : 0 < H) (hR0 : 0 ≤ R) (hR1 : R < n) (hQ : 0 ≤ Q) (hst : (R = 0 ∧ st = 0) ∨ (R ≠ 0 ∧ st = 1)) : halfUp (2 * (n * Q + R)) (n * (4 * H)) = halfUp (2 * Q + st) (4 * H) := by
  have hv0 := Int.emod_nonneg Q (show 2 * H ≠ 0 by omega)
  have hv1 := Int.emod_lt_of_pos Q (show 0 < 2 * H by omega)
  have hQe := Int.mul_ediv_add_emod Q (2 * H)
  generalize Q % (2 * H) = v at *
  generalize Q / (2 * H) = u at *
  have k1 : n * v + R < n * (2 * H) := by
    have := Int.mul_le_mul_of_nonneg_left (show v + 1 ≤ 2 * H by omega) (Int.le_of_lt hn)
    rw [Int.mul_add, Int.mul_one] at this
    omega
  have k0 : 0 ≤ n * v := Int.mul_nonneg (Int.le_of_lt hn) hv0
  have s1 : n * (4 * H) = 2 * (n * (2 * H)) := by rw [Int.mul_left_comm 2 n]; congr 1; omega
  have d1 := dm (2 * (n * Q + R)) (n * (4 * H)) u (2 * (n * v + R)) (Int.mul_pos hn (by omega)) (by
    rw [← hQe, s1, Int.mul_add n, ← Int.mul_assoc n, Int.mul_assoc 2 (n * (2 * H))]
    omega) (by omega) (by omega)
  have d2 := dm (2 * Q + st) (4 * H) u (2 * v + st) (by omega) (by
    rw [← hQe, show 4 * H = 2 * (2 * H) by omega, Int.mul_assoc 2 (2 * H)]
    omega) (by omega) (by omega)
  unfold halfUp
  rw [d1.1, d1.2, d2.1, d2.2]
  have hs : n * (4 * H) = 4 * (n * H) := Int.mul_left_comm n 4 H
  rw [hs]
  rcases Int.lt_trichotomy v H with hv | hv | hv
  · have := Int.mul_le_mul_of_nonneg_left (show v + 1 ≤ H by omega) (Int.le_of_lt hn)
    rw [Int.mul_add, Int.mul_one] at this
    generalize n * v = nv at *
    generalize n * H = nH at *
    rw [if_neg (by omega), if_neg (by omega)]
  · subst hv
    generalize n * v = nv at *
    rcases hst with ⟨h1, h2⟩ | ⟨h1, h2⟩
    · by_cases hu : u % 2 = 1
      · rw [if_pos (by omega), if_pos (by omega)]
      · rw [if_neg (by omega), if_neg (by omega)]
    · rw [if_pos (by omega), if_pos (by omega)]
  · have := Int.mul_le_mul_of_nonneg_left (show H + 1 ≤ v by omega) (Int.le_of_lt hn)
    rw [Int.mul_add, Int.mul_one] at this
    generalize n * v = nv at *
    generalize n * H = nH at *
    rw [if_pos (by omega), if_pos (by omega)]
end Go.Proofs.Ytghjbadanhplnaa.PF
