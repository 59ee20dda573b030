/- x -> (5x + 1) mod 2^m goes through all numbers below 2^m. Plain arithmetic; no condition. -/
import Derived.Test.YtohilfkdfcihgaaGFind
set_option linter.unusedVariables false
set_option linter.unusedSimpArgs false
namespace Go.Proofs.Ytohilfkdfcihgaa.Cyc

/-- The steps, not reduced: G i x = 5^i x + s i. -/
def G : Nat → Nat → Nat
  | 0, x => x
  | i + 1, x => 5 * G i x + 1

theorem G_add (i j x : Nat) : G (i + j) x = G i (G j x) := by
  induction i with
  | zero => simp [G]
  | succ i ih => rw [Nat.succ_add]; simp only [G]; rw [ih]

theorem G_lin (i x : Nat) : 4 * G i x + 1 = 5 ^ i * (4 * x + 1) := by
  induction i with
  | zero => simp [G]
  | succ i ih =>
    simp only [G]
    rw [Nat.pow_succ, show 4 * (5 * G i x + 1) + 1 = 5 * (4 * G i x + 1) by omega, ih, Nat.mul_comm (5 ^ i) 5, Nat.mul_assoc]

theorem pow_form (m : Nat) : ∃ o, 5 ^ (2 ^ m) = 1 + 2 ^ (m + 2) * (2 * o + 1) := by
  induction m with
  | zero => exact ⟨0, by decide⟩
  | succ m ih =>
    obtain ⟨o, ho⟩ := ih
    refine ⟨o + 2 ^ m * ((2 * o + 1) * (2 * o + 1)), ?_⟩
    have e : 5 ^ 2 ^ (m + 1) = 5 ^ 2 ^ m * 5 ^ 2 ^ m := by rw [← Nat.pow_add]; congr 1; rw [Nat.pow_succ]; omega
    rw [e, ho]
    generalize hq : 2 * o + 1 = q
    have h2 : 2 ^ (m + 1 + 2) = 2 * 2 ^ (m + 2) := by rw [show m + 1 + 2 = (m + 2) + 1 by omega, Nat.pow_succ]; omega
    have h3 : 2 ^ (m + 2) = 4 * 2 ^ m := by rw [Nat.pow_add]; omega
    rw [h2, h3]
    generalize 2 ^ m = p
    have h4 : 2 * (o + p * (q * q)) + 1 = q + 2 * (p * (q * q)) := by omega
    rw [h4]
    have e1 : (1 + 4 * p * q) * (1 + 4 * p * q) = 1 + (2 * (4 * p * q) + (4 * p * q) * (4 * p * q)) := by
      rw [Nat.add_mul, Nat.one_mul, Nat.mul_add, Nat.mul_one]; omega
    have e2 : 2 * (4 * p) * (q + 2 * (p * (q * q))) = 2 * (4 * p * q) + (4 * p * q) * (4 * p * q) := by
      rw [Nat.mul_add]
      congr 1
      · rw [Nat.mul_assoc]
      · have : (4 * p * q) * (4 * p * q) = 16 * (p * (p * (q * q))) := by
          rw [Nat.mul_assoc 4 p q, show 4 * (p * q) * (4 * (p * q)) = 16 * ((p * q) * (p * q)) by rw [Nat.mul_mul_mul_comm]]
          congr 1
          rw [Nat.mul_mul_mul_comm]
          simp only [Nat.mul_assoc]
        rw [this, show 2 * (4 * p) * (2 * (p * (q * q))) = 16 * (p * (p * (q * q))) by
          rw [show 2 * (4 * p) = 8 * p by omega, Nat.mul_mul_mul_comm]]
    rw [e1, e2]

/-- 2^m steps change just the bit m. -/
theorem G_half (m x : Nat) : ∃ z, G (2 ^ m) x = x + 2 ^ m + 2 ^ (m + 1) * z := by
  obtain ⟨o, ho⟩ := pow_form m
  have h := G_lin (2 ^ m) x
  rw [ho] at h
  have h3 : 2 ^ (m + 2) = 4 * 2 ^ m := by rw [Nat.pow_add]; omega
  have h2 : 2 ^ (m + 1) = 2 * 2 ^ m := by rw [Nat.pow_succ]; omega
  rw [h3] at h
  rw [h2]
  generalize 2 ^ m = p at *
  refine ⟨o + 2 * ((2 * o + 1) * x), ?_⟩
  have e : (1 + 4 * p * (2 * o + 1)) * (4 * x + 1) = 4 * x + 1 + (4 * (p * (2 * o + 1)) + 16 * (p * ((2 * o + 1) * x))) := by
    rw [Nat.add_mul, Nat.one_mul, Nat.mul_assoc 4 p]
    generalize 2 * o + 1 = q
    congr 1
    rw [Nat.mul_add, Nat.mul_one, Nat.add_comm]
    congr 1
    rw [Nat.mul_mul_mul_comm, Nat.mul_assoc p q x]
  rw [e] at h
  have e2 : 2 * p * (o + 2 * ((2 * o + 1) * x)) = 2 * (p * o) + 4 * (p * ((2 * o + 1) * x)) := by
    rw [Nat.mul_add, Nat.mul_assoc]
    congr 1
    rw [Nat.mul_mul_mul_comm]
  rw [e2]
  have e3 : p * (2 * o + 1) = 2 * (p * o) + p := by
    rw [Nat.mul_add, Nat.mul_one, ← Nat.mul_assoc, Nat.mul_comm p 2, Nat.mul_assoc]
  rw [e3] at h
  omega

theorem cover (m : Nat) : ∀ x y, ∃ i, i < 2 ^ m ∧ G i x % 2 ^ m = y % 2 ^ m := by
  induction m with
  | zero => intro x y; exact ⟨0, by decide, by simp [Nat.mod_one]⟩
  | succ m ih =>
    intro x y
    obtain ⟨i, hi, h⟩ := ih x y
    have h2 : 2 ^ (m + 1) = 2 * 2 ^ m := by rw [Nat.pow_succ]; omega
    have hp : 0 < 2 ^ m := Nat.pos_of_ne_zero (by simp)
    by_cases hc : G i x % 2 ^ (m + 1) = y % 2 ^ (m + 1)
    · exact ⟨i, by omega, hc⟩
    · refine ⟨2 ^ m + i, by omega, ?_⟩
      rw [G_add]
      obtain ⟨z, hz⟩ := G_half m (G i x)
      rw [hz, Nat.add_mul_mod_self_left]
      rw [h2] at hc ⊢
      generalize 2 ^ m = p at *
      generalize G i x = a at *
      have ha := Nat.div_add_mod a (2 * p)
      have hy := Nat.div_add_mod y (2 * p)
      have ha2 := Nat.mod_lt a (show 0 < 2 * p by omega)
      have hy2 := Nat.mod_lt y (show 0 < 2 * p by omega)
      have ea : a % p = a % (2 * p) % p := (Nat.mod_mul_left_mod a 2 p).symm
      have ey : y % p = y % (2 * p) % p := (Nat.mod_mul_left_mod y 2 p).symm
      rw [ea, ey] at h
      have eap : (a + p) % (2 * p) = (a % (2 * p) + p) % (2 * p) := (Nat.mod_add_mod a (2 * p) p).symm
      rw [eap]
      generalize a % (2 * p) = u at *
      generalize y % (2 * p) = v at *
      have hu : u % p = if u < p then u else u - p := by
        split
        · exact Nat.mod_eq_of_lt (by assumption)
        · rw [Nat.mod_eq_sub_mod (by omega)]; exact Nat.mod_eq_of_lt (by omega)
      have hv : v % p = if v < p then v else v - p := by
        split
        · exact Nat.mod_eq_of_lt (by assumption)
        · rw [Nat.mod_eq_sub_mod (by omega)]; exact Nat.mod_eq_of_lt (by omega)
      rw [hu, hv] at h
      by_cases h5 : u < p
      · rw [if_pos h5] at h
        rw [Nat.mod_eq_of_lt (by omega)]
        split at h <;> omega
      · rw [if_neg h5] at h
        rw [Nat.mod_eq_sub_mod (by omega), Nat.mod_eq_of_lt (by omega)]
        split at h <;> omega

end Go.Proofs.Ytohilfkdfcihgaa.Cyc
