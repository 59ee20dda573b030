/- The float nearest to a fraction: which it is. Plain law; no condition beyond those of the theorems. -/
import Derived.Test.YtghjbadanhplnaaDivZ
import Derived.Test.YtghjbadanhplnaaFloZ
import Derived.Test.YtghjbadanhplnaaPGx4
namespace Go.Proofs.Ytghjbadanhplnaa.PF
open Go.RowKit Go.Proofs.YtghjbadanhplnaaW.PrintWords Go.Proofs.YtghjbadanhplnaaW.PrintLast Go.Proofs.YtghjbadanhplnaaW.PrintMore Go.Proofs.Ytghjbadanhplnaa.Limb
set_option linter.unusedVariables false
set_option linter.unusedSimpArgs false

/-- The place of the last digit that is kept, above the least, of M / D units. -/
def eOf (M D : Int) : Nat := (M / D).toNat.log2 - 52
theorem eOf_lt {M D : Int} (h0 : 0 ≤ M) (hD : 0 < D) : M < D * 2 ^ (eOf M D + 53) := by
  have h1 : 0 ≤ M / D := Int.ediv_nonneg h0 (by omega)
  have h2 : (M / D).toNat < 2 ^ ((M / D).toNat.log2 + 1) := Nat.lt_log2_self
  have h3 : (2 : Nat) ^ ((M / D).toNat.log2 + 1) ≤ 2 ^ (eOf M D + 53) := Nat.pow_le_pow_right (by decide) (by unfold eOf; omega)
  have h4 : M / D + 1 ≤ ((2 ^ (eOf M D + 53) : Nat) : Int) := by omega
  rw [Int.natCast_pow] at h4
  have h5 := Int.mul_le_mul_of_nonneg_left h4 (Int.le_of_lt hD)
  have h6 := Int.lt_mul_ediv_self_add (x := M) hD
  rw [Int.mul_add, Int.mul_one] at h5
  exact Int.lt_of_lt_of_le h6 h5
theorem eOf_ge {M D : Int} (h0 : 0 ≤ M) (hD : 0 < D) (he : eOf M D ≠ 0) : D * 2 ^ (eOf M D + 52) ≤ M := by
  have h1 : 0 ≤ M / D := Int.ediv_nonneg h0 (by omega)
  have hl : eOf M D + 52 = (M / D).toNat.log2 := by unfold eOf at he ⊢; omega
  have hne : (M / D).toNat ≠ 0 := by
    intro h
    rw [h] at hl
    simp at hl
  have h2 := Nat.log2_self_le hne
  rw [← hl] at h2
  have h4 : ((2 ^ (eOf M D + 52) : Nat) : Int) ≤ M / D := by omega
  rw [Int.natCast_pow] at h4
  have h5 := Int.mul_le_mul_of_nonneg_left h4 (Int.le_of_lt hD)
  have h6 := Int.mul_ediv_self_le (x := M) (k := D) (by omega)
  exact Int.le_trans h5 h6
def halfUp (n d : Int) : Int := if 2 * (n % d) > d ∨ (2 * (n % d) = d ∧ (n / d) % 2 = 1) then n / d + 1 else n / d
def wordOf (neg : Bool) (w : Int) : Int := if neg = true then w + 9223372036854775808 else w
/-- The word nearest to M / D units. -/
def RWw (neg : Bool) (M D : Int) : Int := wordOf neg (min ((eOf M D : Int) * 4503599627370496 + halfUp M (D * 2 ^ eOf M D)) 9218868437227405312)
theorem halfUp_scale (n d c : Int) (hc : 0 < c) : halfUp (n * c) (d * c) = halfUp n d := by
  unfold halfUp
  have he : n * c % (d * c) = n % d * c := by rw [Int.mul_comm n c, Int.mul_comm d c, Int.mul_emod_mul_of_pos _ _ hc, Int.mul_comm c]
  rw [Int.mul_ediv_mul_of_pos_left _ _ hc, he]
  have h1 : 2 * (n % d * c) > d * c ↔ 2 * (n % d) > d := by
    rw [← Int.mul_assoc]
    exact Int.mul_lt_mul_right hc
  have h2 : 2 * (n % d * c) = d * c ↔ 2 * (n % d) = d := by
    rw [← Int.mul_assoc]
    exact Int.mul_eq_mul_right_iff (by omega)
  simp only [h1, h2]
def nS (N : Int) (E : Nat) : Int := if E < 1074 then N * 2 ^ (1074 - E) else N
def dS (D : Int) (E : Nat) : Int := if E < 1074 then D else D * 2 ^ (E - 1074)
theorem dS_pos {D : Int} (h : 0 < D) (E : Nat) : 0 < dS D E := by
  unfold dS
  split
  · exact h
  · exact Int.mul_pos h (p2_pos _)
theorem nS_nonneg {N : Int} (h : 0 ≤ N) (E : Nat) : 0 ≤ nS N E := by
  unfold nS
  split
  · exact Int.mul_nonneg h (Int.le_of_lt (p2_pos _))
  · exact h
theorem scaled (N D : Int) (E : Nat) : ∃ c : Int, 0 < c ∧ N * 2 ^ 1074 = nS N E * c ∧ D * 2 ^ E = dS D E * c := by
  unfold nS dS
  by_cases h : E < 1074
  · refine ⟨2 ^ E, p2_pos E, ?_, ?_⟩
    · rw [if_pos h, Int.mul_assoc, ← Int.pow_add, show 1074 - E + E = 1074 by omega]
    · rw [if_pos h]
  · refine ⟨2 ^ 1074, p2_pos 1074, ?_, ?_⟩
    · rw [if_neg h]
    · rw [if_neg h, Int.mul_assoc, ← Int.pow_add, show E - 1074 + 1074 = E by omega]
theorem q_bounds {N D : Int} (h0 : 0 ≤ N) (hD : 0 < D) (E : Nat) (hE : E = eOf (N * 2 ^ 1074) D) : 0 ≤ nS N E / dS D E ∧ nS N E / dS D E < 9007199254740992 ∧ (E ≠ 0 → 4503599627370496 ≤ nS N E / dS D E) ∧ halfUp (N * 2 ^ 1074) (D * 2 ^ E) = halfUp (nS N E) (dS D E) := by
  obtain ⟨c, hc, e1, e2⟩ := scaled N D E
  have hM : 0 ≤ N * 2 ^ 1074 := Int.mul_nonneg h0 (Int.le_of_lt (p2_pos _))
  have hd := dS_pos hD E
  have h1 := eOf_lt hM hD
  rw [← hE, Int.pow_add, ← Int.mul_assoc, e1, e2] at h1
  have h1 : nS N E < dS D E * 9007199254740992 := by
    rw [Int.mul_assoc, Int.mul_comm c, ← Int.mul_assoc] at h1
    exact Int.lt_of_mul_lt_mul_right h1 (Int.le_of_lt hc)
  refine ⟨Int.ediv_nonneg (nS_nonneg h0 E) (by omega), Int.ediv_lt_of_lt_mul hd (by rw [Int.mul_comm]; exact h1), fun hne => ?_, by rw [e1, e2, halfUp_scale _ _ _ hc]⟩
  have h2 := eOf_ge hM hD (by rw [← hE]; exact hne)
  rw [← hE, Int.pow_add, ← Int.mul_assoc, e1, e2] at h2
  have h2 : dS D E * 4503599627370496 ≤ nS N E := by
    rw [Int.mul_assoc, Int.mul_comm c, ← Int.mul_assoc] at h2
    exact Int.le_of_mul_le_mul_right h2 hc
  exact Int.le_ediv_of_mul_le hd (by rw [Int.mul_comm]; exact h2)
/-- One place too low: too many digits. -/
theorem q_low {N D : Int} (h0 : 0 ≤ N) (hD : 0 < D) (E : Nat) (hE : E + 1 = eOf (N * 2 ^ 1074) D) : 9007199254740992 ≤ nS N E / dS D E := by
  obtain ⟨c, hc, e1, e2⟩ := scaled N D E
  have hM : 0 ≤ N * 2 ^ 1074 := Int.mul_nonneg h0 (Int.le_of_lt (p2_pos _))
  have hd := dS_pos hD E
  have h2 := eOf_ge hM hD (by omega)
  rw [← hE, show E + 1 + 52 = E + 53 by omega, Int.pow_add, ← Int.mul_assoc, e1, e2] at h2
  have h2 : dS D E * 9007199254740992 ≤ nS N E := by
    rw [Int.mul_assoc, Int.mul_comm c, ← Int.mul_assoc] at h2
    exact Int.le_of_mul_le_mul_right h2 hc
  exact Int.le_ediv_of_mul_le hd (by rw [Int.mul_comm]; exact h2)
/-- The first guess, by the numbers of bits. -/
theorem e_guess {N D : Int} {b1 b2 : Nat} (h1 : isBits N b1) (h2 : isBits D b2) (hN : 0 < N) (hD : 0 < D) : ∃ E0 : Nat, (E0 : Int) = max ((b1 : Int) - b2 - 53) (-1074) + 1074 ∧ E0 ≤ eOf (N * 2 ^ 1074) D ∧ eOf (N * 2 ^ 1074) D ≤ E0 + 1 := by
  have hM : 0 ≤ N * 2 ^ 1074 := Int.mul_nonneg (by omega) (Int.le_of_lt (p2_pos _))
  have l1 := eOf_lt hM hD
  have l2 := eOf_ge hM hD
  generalize eOf (N * 2 ^ 1074) D = E at *
  rcases h1 with ⟨h, _⟩ | ⟨n0, n1, n2⟩
  · omega
  rcases h2 with ⟨h, _⟩ | ⟨d0, d1, d2⟩
  · omega
  -- from above: N 2^1074 < D 2^(E+53) < 2^(b2+E+53)
  have u1 : (b1 : Int) - 1 + 1074 < b2 + E + 53 := by
    rcases Nat.lt_or_ge (b1 - 1 + 1074) (b2 + E + 53) with h | h
    · omega
    · exfalso
      have h3 := p2_mono h
      have h4 : (2 : Int) ^ (b1 - 1 + 1074) ≤ N * 2 ^ 1074 := by
        rw [Int.pow_add]
        exact Int.mul_le_mul_of_nonneg_right n1 (Int.le_of_lt (p2_pos _))
      have h5 : D * 2 ^ (E + 53) ≤ 2 ^ (b2 + E + 53) := by
        rw [show b2 + E + 53 = b2 + (E + 53) by omega, Int.pow_add 2 b2]
        exact Int.mul_le_mul_of_nonneg_right (by omega) (Int.le_of_lt (p2_pos _))
      omega
  have u2 : E ≠ 0 → (b2 : Int) - 1 + E + 52 < b1 + 1074 := by
    intro hne
    have l3 := l2 hne
    rcases Nat.lt_or_ge (b2 - 1 + (E + 52)) (b1 + 1074) with h | h
    · omega
    · exfalso
      have h3 := p2_mono h
      have h4 : (2 : Int) ^ (b2 - 1 + (E + 52)) ≤ D * 2 ^ (E + 52) := by
        rw [Int.pow_add]
        exact Int.mul_le_mul_of_nonneg_right d1 (Int.le_of_lt (p2_pos _))
      have h5 : N * 2 ^ 1074 < 2 ^ (b1 + 1074) := by
        rw [Int.pow_add]
        exact Int.mul_lt_mul_of_pos_right n2 (p2_pos _)
      omega
  refine ⟨(max ((b1 : Int) - b2 - 53) (-1074) + 1074).toNat, by omega, ?_, ?_⟩
  · omega
  · by_cases hne : E = 0
    · omega
    · have := u2 hne
      omega
theorem good_inj {a b : List Int} {v : Int} (ha : Good a v) (hb : Good b v) (hx : a.length ≤ 1000000) : a = b := by
  have hl : a.length = b.length := by
    obtain ⟨a1, a2, a3⟩ := ha
    obtain ⟨b1, b2, b3⟩ := hb
    rcases Nat.lt_trichotomy a.length b.length with h | h | h
    · have := valL_shorter a1 b1 b2 h
      omega
    · exact h
    · have := valL_shorter b1 a1 a2 h
      omega
  obtain ⟨c, e1, e2⟩ := cmp_loop a b hl hx ha.1 hb.1 a.length (a.length + 1) (Nat.le_refl _) (by rw [List.drop_length, hl, List.drop_length]) (by omega)
  have h1 := ha.2.2
  have h2 := hb.2.2
  rcases e2 with ⟨_, h⟩ | ⟨_, h⟩ | ⟨_, h⟩
  · omega
  · exact h
  · omega
theorem good_53 : Good [0, 2097152] 9007199254740992 := ⟨by intro x hx; simp at hx; omega, fun x hx => by simp at hx; omega, rfl⟩
theorem good_52 : Good [0, 1048576] 4503599627370496 := ⟨by intro x hx; simp at hx; omega, fun x hx => by simp at hx; omega, rfl⟩
theorem shr_53 (k : Nat) (hk : 20 ≤ k) : spec_l1ShrMag.f k [0, 2097152] 1 = some [0, 1048576] := by
  obtain ⟨k, rfl⟩ : ∃ m, k = m + 3 := ⟨k - 3, by omega⟩
  unfold spec_l1ShrMag.f
  have w0 : wrap64 (Int.tdiv 1 32) = 0 := by rw [show Int.tdiv 1 32 = 0 from rfl]; exact wrap_in 0 (by omega) (by omega)
  have w1 : wrap64 (0 + 1) = 1 := by rw [show (0 : Int) + 1 = 1 from rfl]; exact wrap_in 1 (by omega) (by omega)
  have w2 : wrap64 (1 + 1) = 2 := by rw [show (1 : Int) + 1 = 2 from rfl]; exact wrap_in 2 (by omega) (by omega)
  rw [show IntKind.u64.wrap (Int.tmod 1 32) = 1 from by decide, w0]
  rw [spec_l1ShrMag.l0, w1, if_pos (by decide), if_pos (by decide), if_pos (by decide), if_pos (by decide), if_pos (by decide), if_pos (by decide)]
  rw [spec_l1ShrMag.l0, w2, if_pos (by decide), if_pos (by decide), if_neg (by decide), if_pos (by decide), if_pos (by simp)]
  rw [spec_l1ShrMag.l0, if_neg (by decide)]
  have e : ([] ++ [(Go.bits .and .u64 (shr .u64 (Go.bits .or .u64 (IntKind.u64.wrap (rd [0, 2097152] 0)) (IntKind.u64.wrap ((IntKind.u64.wrap (rd [0, 2097152] 1)) * 4294967296))) 1) 4294967295) % 4294967296] ++ [(Go.bits .and .u64 (shr .u64 (IntKind.u64.wrap (rd [0, 2097152] 1)) 1) 4294967295) % 4294967296] : List Int) = [0, 1048576] := by decide
  rw [e]
  obtain ⟨r, e1, e2, e3⟩ := trim_some [0, 1048576] (by simp) good_52.1 k (by simp; omega)
  rw [e1, Option.bind_some, good_inj e2 (show Good [0, 1048576] (valL [0, 1048576]) from ⟨good_52.1, good_52.2.1, rfl⟩) (by simp at e3; omega)]
theorem set_some (neg : Bool) (w : Int) (h0 : 0 ≤ w) (h1 : w < 9223372036854775808) : spec_l2Set.f neg w = some (wordOf neg w) := by
  unfold spec_l2Set.f wordOf
  cases neg with
  | false => rfl
  | true =>
    rw [if_pos rfl, if_pos rfl]
    congr 1
    obtain ⟨a, rfl⟩ := Int.eq_ofNat_of_zero_le h0
    rw [show (9223372036854775808 : Int) = ((2 ^ 63 : Nat) : Int) from rfl, bits_or_u64_nat a _ (by omega) (by decide), Nat.or_comm]
    have := Nat.two_pow_add_eq_or_of_lt (i := 63) (b := a) (by omega) 1
    rw [Nat.mul_one] at this
    rw [← this]
    omega

end Go.Proofs.Ytghjbadanhplnaa.PF
